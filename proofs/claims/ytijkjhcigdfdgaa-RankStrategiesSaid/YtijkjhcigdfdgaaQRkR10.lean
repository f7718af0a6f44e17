/- Progress measures, by the reference. -/
import Derived.Test.YtijkjhcigdfdgaaQRkR9
namespace Go.Proofs.Ytijkjhcigdfdgaa
open Go.RowKit

def RV12 (am : Option Addr) (lm cm : Nat) (a0 : Option Addr) (n c0 : Nat) (v1 v2 : Value) (b3 o3 c3 : Nat) (ab : Option Addr) (L cb j _z : Nat) (dl : List Int) (lt : Bool) (ix : Nat) (u : Value) (W : World) : Prop :=
  match ix with
  | 0 => u = .slice (some ⟨b3, o3, none⟩) n c3
  | 1 => u = .int .i64 (j : Int)
  | 2 => u = .pointer (some ⟨b3, o3 + j, none⟩)
  | 3 => u = .slice am lm cm
  | 4 => u = .bool false
  | 5 => u = .bool true
  | 6 => u = .bool true
  | 7 => u = .slice (some ⟨b3, o3, none⟩) n c3
  | 8 => u = .int .i64 (j : Int)
  | 9 => u = .pointer (some ⟨b3, o3 + j, none⟩)
  | 10 => u = .slice am lm cm
  | 11 => u = .agg #[.slice a0 n c0, v1, v2]
  | 12 => u = .slice ab L cb
  | 13 => u = .slice (some ⟨b3, o3, none⟩) n c3
  | 14 => u = .int .i64 (j : Int)
  | 15 => OI W 0 u dl
  | 16 => u = .bool lt
  | 17 => u = .bool lt
  | _ => True
theorem RV12.below {ix : Nat} {u : Value} {W W' : World} {am : Option Addr} {lm cm : Nat} {a0 : Option Addr} {n c0 : Nat} {v1 v2 : Value} {b3 o3 c3 : Nat} {ab : Option Addr} {L cb j z : Nat} {dl : List Int} {lt : Bool} (h : RV12 am lm cm a0 n c0 v1 v2 b3 o3 c3 ab L cb j z dl lt ix u W) (hb : Below W.heap.size W W') : RV12 am lm cm a0 n c0 v1 v2 b3 o3 c3 ab L cb j z dl lt ix u W' := by
  unfold RV12 at *
  split at h <;> first | exact h | trivial | exact OI.below h hb


set_option maxRecDepth 100000 in
set_option maxHeartbeats 8000000 in
theorem rvalid_c (w : World) (vg vm : Value) (g : Gm) (m : List (List Int)) (hg : IsGame w vg g) (hm : IsRows w vm m) (hv : validB g = true) :
    Calls Try.prog 43 #[vg, vm] w (Calm (.bool (pmB g m)) w) := by
  have hmx : Try.prog.follows .mixedOrders = true := by kernel_rfl
  obtain ⟨la, lb, lc⟩ := valid_lens hv
  have hmb := mo_bd hv
  have hh := high_le hv
  have hE := re_valid hv
  have HBC : Hid (∀ W, Below w.heap.size w W → Calls Try.prog 56 #[vg] W (NewSet (castM (moG g)) W)) := fun W h => Bounds_c W vg g (hg.below h) (by omega) (by omega)
  have hl : (moG g).length ≤ 15001 := by rw [mo_len]; unfold partN; omega
  have HCI : Hid (∀ x ∈ castM (moG g), I64 x) := fun x hx => by
    obtain ⟨y, hy, rfl⟩ := List.mem_map.1 hx
    obtain ⟨i, hi, rfl⟩ := List.getElem_of_mem hy
    have := hmb i
    rw [getD_lt _ _ _ hi] at this
    show _ ∧ _
    constructor
    · have : (0 : Int) ≤ Int.ofNat (moG g)[i] := Int.natCast_nonneg _; omega
    · show ((moG g)[i] : Int) ≤ _; omega
  have HOC : Hid (m.length = g.owner.length → (∀ u, u < g.owner.length → meB (moG g) (m.getD u []) = true) → ∀ W vb k, Below w.heap.size w W → IsInts W vb (castM (moG g)) → k < g.owner.length → Calls Try.prog 58 #[vg, vb, vm, .int .i64 (k : Int)] W (NewSet (digL (moG g) (needN g (moG g) (fun u => cdN (moG g) (m.getD u [])) k)) W)) := fun h4 hM W vb k h hb hk => by
    have := pri_valid hv hk
    exact owed_c W vg vb vm g (moG g) m _ k g.owner.length (hg.below h) hb (hm.below h) hE rfl lb lc h4 hk (fun u hu => (dig_cd (hM u hu)).symm) (fun u hu => cd_le (hM u hu)) ⟨this.1, this.2.1⟩ this.2.2 hl hmb
  have HLS : Hid (∀ u c, c ≤ topN (moG g) → meB (moG g) (m.getD u []) = true → lessB (m.getD u []) (digL (moG g) c) = decide (cdN (moG g) (m.getD u []) < c)) := fun u c hc hm => by
    rw [less_bef hm (dig_me _ _), cd_dig hc]
  have HNT : Hid ((∀ u, u < g.owner.length → meB (moG g) (m.getD u []) = true) → ∀ k, k < g.owner.length → needN g (moG g) (fun u => cdN (moG g) (m.getD u [])) k ≤ topN (moG g)) := fun hM k hk => need_le hE (fun u hu => cd_le (hM u hu)) hk
  have HTP : Hid (∀ k, k < g.owner.length → (∀ u, u < g.owner.length → meB (moG g) (m.getD u []) = true) → m.getD k [] = [] → needN g (moG g) (fun u => cdN (moG g) (m.getD u [])) k ≤ cdN (moG g) (m.getD k [])) := fun k hk hM e => keep_top hE hM hk e
  have HL0 : Hid (m.length ≠ g.owner.length → pmB g m = false) := pmB_len
  have HM0 : Hid (∀ k, k < m.length → meB (moG g) (m.getD k []) = false → pmB g m = false) := fun k hk h => pmB_me hk h
  have HK0 : Hid (∀ k, k < g.owner.length → ¬ needN g (moG g) (fun u => cdN (moG g) (m.getD u [])) k ≤ cdN (moG g) (m.getD k []) → pmB g m = false) := fun k hk h => pmB_keep hk (decide_eq_false h)
  have HY0 : Hid (m.length = g.owner.length → (∀ k, k < m.length → meB (moG g) (m.getD k []) = true) → (∀ k, k < g.owner.length → needN g (moG g) (fun u => cdN (moG g) (m.getD u [])) k ≤ cdN (moG g) (m.getD k [])) → pmB g m = true) := fun e a b => pmB_yes e a (fun k hk => decide_eq_true (b k hk))
  have HMB := Lib.hid hmb
  have HDF := Lib.hid (dig_fit hl hmb)
  have hm' := hm
  obtain ⟨a3, c3, b3, o3, M, rfl, d3, n3, f3⟩ := hm.data
  have HMC : Hid (∀ W vb k, Below w.heap.size w W → IsInts W vb (castM (moG g)) → k < m.length → Calls Try.prog 61 #[vb, M k] W (Quiet (.bool (meB (moG g) (m.getD k []))) W)) := fun W vb k h hb hk => rmeas_c W _ _ _ _ hb ((f3 k hk).2.below h) hmb
  have HMI : Hid (∀ k, k < m.length → IsInts w (M k) (m.getD k [])) := fun k hk => (f3 k hk).2
  have HM3 : Hid (∀ j, j < m.length → w.cell? ⟨b3, o3 + j, none⟩ = some (M j)) := fun j hj => (f3 j hj).1
  have HD3 := Lib.hid d3
  obtain ⟨v0, v1, v2, rfl, g0, g1, g2⟩ := hg
  obtain ⟨a0, c0, rfl⟩ := g0.shape
  clear g0 g1 g2 hmb hh hE lb lc hv hm hm' f3 d3
  obtain ⟨nf, hnf⟩ : ∃ nf : Nat → Nat, ∀ k, nf k = needN g (moG g) (fun u => cdN (moG g) (m.getD u [])) k := ⟨_, fun _ => rfl⟩
  simp only [← hnf] at HOC HNT HTP HK0 HY0
  clear hnf
  generalize pmB g m = res at *
  generalize moG g = mo at *
  generalize g.owner.length = n at *
  have hx : (w.alloc (.cells #[.slice a0 n c0, v1, v2] 25)).heap[w.heap.size]? = some (.cells #[.slice a0 n c0, v1, v2] 25 (0, 0)) := (by (repeat (rw [alloc_get]; first | rw [if_pos (by first | (simp; done) | (simp; omega))] | rw [if_neg (by first | (simp; done) | (simp; omega))])); (try rfl))
  have hB : Below w.heap.size w (w.alloc (.cells #[.slice a0 n c0, v1, v2] 25)) := (by repeat (first | exact Below.refl _ _ | assumption | (refine belA ?_ _) | (refine belD ?_ _)))
  go_enter Try.func43, Try.ntmps43
  go_upto_region 1 with (fail)
  generalize (w.alloc (.cells #[.slice a0 n c0, v1, v2] 25)) = w1 at *
  have q0 := cell_of_row _ _ 0 _ _ _ hx
  have q1 := cell_of_row _ _ 1 _ _ _ hx
  have q2 := cell_of_row _ _ 2 _ _ _ hx
  have HB0 := Lib.hid hB
  clear hx hB
  go_wp2_with fail
  refine (HBC.out _ HB0.out).mono ?_
  rintro e w2 ⟨vb, rfl, hO, hb⟩
  have HB2 := Lib.hid (HB0.out.trans (hb.mono HB0.out.size))
  have HI := Lib.hid (hO.is (by rw [castM_len]; unfold maxN; omega) HCI.out)
  replace q0 := cellB hb q0
  replace q1 := cellB hb q1
  replace q2 := cellB hb q2
  obtain ⟨ab, cb, rfl⟩ := HI.out.shape
  clear hO hb HBC HCI
  generalize (castM mo).length = L at *
  by_cases hmn : m.length = n
  case neg =>
    have HE := Lib.hid (HL0.out hmn)
    have t1 : ((m.length : Int) != (n : Int)) = true := by simp; omega
    clear hmn
    go_wp2
    go_ret
    exact ⟨ret_bool HE.out.symm, HB2.out⟩
  have t1 : ((m.length : Int) != (n : Int)) = false := by simp; omega
  have HMN := Lib.hid hmn
  rw [hmn] at t1 n3 HM3 HD3 HMC HMI HM0 HY0 HOC ⊢
  have HOC2 := Lib.hid (HOC.out rfl)
  have HY2 := Lib.hid (HY0.out rfl)
  clear hmn HOC HL0 HY0
  go_wp2_with fail
  go_loopg [6] n (fun gh i wr => ∃ k nd : Nat, gh = n - k ∧ i = .int .i64 (k : Int) ∧ k ≤ n ∧ Hid (∀ j, j < k → meB mo (m.getD j []) = true) ∧ Hid (wr = w2.drewN nd))
  case atStart => exact ⟨0, 0, rfl, rfl, by omega, fun j hj => absurd hj (by omega), rfl⟩
  case round =>
    obtain ⟨k, nd, hgk, rfl, hk, HA, HW⟩ := hrel
    have HGK := Lib.hid hgk
    clear hgk
    have HBW : Hid (Below w2.heap.size w2 wr) := by show Below _ _ _; rw [HW.out]; exact below_draws _ _ _
    have HBX := Lib.hid (HB2.out.trans (HBW.out.mono HB2.out.size))
    by_cases hlt : k < n
    · as_aux_lemma =>
      obtain rfl := HD3.out (by omega)
      have i1 : (k : Int) < (n : Int) := by omega
      have e1 := cellB HBX.out (HM3.out k hlt)
      have HC := Lib.hid (HMC.out wr _ k HBX.out (HI.out.below HBW.out) hlt)
      obtain ⟨b, hb⟩ : ∃ b, meB mo (m.getD k []) = b := ⟨_, rfl⟩
      rw [hb] at HC
      generalize M k = Mk at *
      cases b with
      | false =>
        have HE := Lib.hid (HM0.out k hlt hb)
        clear hb
        go_wp2_with fail
        refine HC.out.mono ?_
        rintro e w3 ⟨rfl, n3', rfl⟩
        go_wp2
        go_ret
        exact ⟨ret_bool HE.out.symm, HBX.out.trans ((below_draws _ _ _).mono HBX.out.size)⟩
      | true =>
        have HA2 : Hid (∀ j, j < k + 1 → meB mo (m.getD j []) = true) := fun j hj => by
          by_cases e : j = k
          · subst e; exact hb
          · exact HA.out j (by omega)
        clear hb
        go_wp2_with fail
        refine HC.out.mono ?_
        rintro e w3 ⟨rfl, n3', rfl⟩
        go_wp2
        go_roundg (n - (k + 1))
        case measure => have := HGK.out; omega
        case rel => exact ⟨k + 1, _, rfl, by go_num, by omega, HA2, by show _ = _; rw [HW.out, World.drewN_drewN]⟩
    · as_aux_lemma =>
      obtain rfl : k = n := by omega
      have i1 : ¬ (k : Int) < (k : Int) := by omega
      have HY3 := Lib.hid (HY2.out HA.out)
      have HOC3 := Lib.hid (HOC2.out HA.out)
      have HNT3 := Lib.hid (HNT.out HA.out)
      go_upto_region 9 with (fail)
      have HI4 := Lib.hid (HI.out.below HBW.out)
      obtain ⟨w4, rfl⟩ : ∃ w4, w4 = wr := ⟨_, rfl⟩
      replace q0 := cellB HBW.out q0
      replace q1 := cellB HBW.out q1
      replace q2 := cellB HBW.out q2
      clear HBW HW HGK HI HB2 HNT HOC2 HY2
      go_wp2_with fail
      go_loopg [7] k (fun gh i wr => ∃ j : Nat, gh = k - j ∧ i = .int .i64 (j : Int) ∧ j ≤ k ∧ Hid (∀ u, u < j → nf u ≤ cdN mo (m.getD u [])) ∧ Hid (Below w4.heap.size w4 wr))
      case atStart => exact ⟨0, rfl, rfl, by omega, fun u hu => absurd hu (by omega), Below.refl _ _⟩
      case round =>
        obtain ⟨j, hgj, rfl, hj, HJ, HB⟩ := hrel
        have HGJ := Lib.hid hgj
        clear hgj
        have HBY := Lib.hid (HBX.out.trans (HB.out.mono HBX.out.size))
        by_cases hlt : j < k
        · as_aux_lemma =>
          obtain rfl := HD3.out (by omega)
          have i1 : (j : Int) < (k : Int) := by omega
          have HRK : Hid (nf j ≤ cdN mo (m.getD j []) → ∀ u, u < j + 1 → nf u ≤ cdN mo (m.getD u [])) := fun h u hu => by
            by_cases e : u = j
            · subst e; exact h
            · exact HJ.out u (by omega)
          have HIM := Lib.hid (HMI.out j hlt)
          obtain ⟨am, cm, hMj⟩ := HIM.out.shape
          rw [hMj] at HIM
          by_cases he : m.getD j [] = []
          · have t5 : (((m.getD j []).length : Int) == 0) = true := by rw [he]; rfl
            have HRK2 := Lib.hid (HRK.out (HTP.out j hlt HA.out he))
            have e1 := cellB HBY.out (HM3.out j hlt)
            rw [hMj] at e1
            clear he hMj
            generalize (m.getD j []).length = lm at *
            go_upto_region 12 with (fail)
            go_quiet ((go_at_call 24; exact Calls.quiet_of_same ((Top_c _ _ _ _ _ t5).mono fun _ _ h => ⟨h.1, h.2.symm⟩)))
            go_wp2
            go_roundg (k - (j + 1))
            case measure => have := HGJ.out; omega
            case rel => exact ⟨j + 1, rfl, by go_num, by omega, HRK2, HB.out.trans (below_draws _ _ _)⟩
          · have t5 : (((m.getD j []).length : Int) == 0) = false := by rw [beq_eq_false_iff_ne]; have := List.length_pos_iff.2 he; omega
            have HBD : Hid (∀ W, Below wr.drew.heap.size wr.drew W → Below wr.heap.size wr W) := fun W h => (Below.drew (B := wr.heap.size) (Below.refl _ _)).trans h
            have HTop : Hid (∀ W, Calls Try.prog 24 #[.slice am (m.getD j []).length cm] W (Calm (.bool false) W)) := fun W => (Top_c W _ _ _ _ t5).mono fun e w' h => ⟨h.1, by rw [← h.2]; exact Below.refl _ _⟩
            have HCl : Hid (∀ W, Below wr.drew.heap.size wr.drew W → W.cell? ⟨b3, o3 + j, none⟩ = some (.slice am (m.getD j []).length cm)) := fun W h => by
              rw [← hMj]; exact cellB (HBY.out.trans ((HBD.out W h).mono HBY.out.size)) (HM3.out j hlt)
            have HGm : Hid (∀ W, Below wr.drew.heap.size wr.drew W → W.cell? ⟨w.heap.size, 0, none⟩ = some (.slice a0 k c0) ∧ W.cell? ⟨w.heap.size, 1, none⟩ = some v1 ∧ W.cell? ⟨w.heap.size, 2, none⟩ = some v2) := fun W h => by
              have hb := HB.out.trans ((HBD.out W h).mono HB.out.size)
              exact ⟨cellB hb q0, cellB hb q1, cellB hb q2⟩
            have HOw : Hid (∀ W, Below wr.drew.heap.size wr.drew W → Calls Try.prog 58 #[.agg #[.slice a0 k c0, v1, v2], .slice ab L cb, .slice (some ⟨b3, o3, none⟩) k c3, .int .i64 (j : Int)] W (NewSet (digL mo (nf j)) W)) := fun W h => by
              have hb := HBD.out W h
              exact HOC3.out W _ j (HBY.out.trans (hb.mono HBY.out.size)) (HI4.out.below (HB.out.trans (hb.mono HB.out.size))) hlt
            obtain ⟨lt, hlt2⟩ : ∃ lt, decide (cdN mo (m.getD j []) < nf j) = lt := ⟨_, rfl⟩
            have HLe : Hid (∀ W u, Below wr.drew.heap.size wr.drew W → OI W 0 u (digL mo (nf j)) → Calls Try.prog 22 #[.slice am (m.getD j []).length cm, u] W (Calm (.bool lt) W)) := fun W u h hu => by
              have hb := HBD.out W h
              have := Less_c W _ u (m.getD j []) _ (HIM.out.below (HBY.out.trans (hb.mono HBY.out.size))) (hu.is (by have := (HDF.out (nf j)).1; unfold maxN; omega) (HDF.out (nf j)).2)
              rw [HLS.out j (nf j) (HNT3.out j hlt) (HA.out j hlt), hlt2] at this
              exact this.mono fun e w' h => h.calm
            have HLT := Lib.hid hlt2
            clear hlt2 he hMj t5
            generalize (m.getD j []).length = lm at *
            generalize digL mo (nf j) = dl at *
            go_upto_region 12 with (fail)
            refine region_stable0 hmx (RV12 am lm cm a0 k c0 v1 v2 b3 o3 c3 ab L cb j w.heap.size dl lt) (fun vs => { tmps := (_ :: _ :: _ :: _ :: _ :: _ :: _ :: _ :: _ :: _ :: _ :: _ :: _ :: _ :: _ :: _ :: _ :: _ :: _ :: _ :: _ :: _ :: _ :: _ :: _ :: _ :: _ :: _ :: _ :: _ :: _ :: _ :: _ :: _ :: _ :: vs 0 :: vs 1 :: vs 2 :: vs 3 :: vs 4 :: vs 5 :: vs 6 :: vs 7 :: vs 8 :: vs 9 :: vs 10 :: vs 11 :: vs 12 :: vs 13 :: vs 14 :: vs 15 :: vs 16 :: vs 17 :: []).toArray, defers := _ }) (fun n => [u35, u36, u37, u38, u39, u40, u41, u42, u43, u44, u45, u46, u47, u48, u49, u50, u51, u52].getD n undef) rfl (by kernel_rfl) (fun _ _ _ _ h hb => h.below hb) ?step ?fin
            case step =>
              intro ix o ho
              match ix, ho with
              | 0, ho =>
                obtain rfl := Option.some.inj ho
                intro vs W K hB hD hU hK
                have HK := Lib.hid hK
                clear hK hD hU ho
                dsimp only
                go_simp
                have h := HK.out _ _ (Below.refl _ _) rfl
                simp only [upd, Nat.reduceEqDiff, reduceIte] at h
                exact h
              | 1, ho =>
                obtain rfl := Option.some.inj ho
                intro vs W K hB hD hU hK
                have HK := Lib.hid hK
                clear hK hD hU ho
                dsimp only
                go_simp
                have h := HK.out _ _ (Below.refl _ _) rfl
                simp only [upd, Nat.reduceEqDiff, reduceIte] at h
                exact h
              | 2, ho =>
                obtain rfl := Option.some.inj ho
                intro vs W K hB hD hU hK
                have HK := Lib.hid hK
                have e0 : vs 0 = .slice (some ⟨b3, o3, none⟩) k c3 := dep_of hD 0 (by rfl)
                have e1 : vs 1 = .int .i64 (j : Int) := dep_of hD 1 (by rfl)
                clear hK hD hU ho
                dsimp only
                go_simp
                have h := HK.out _ _ (Below.refl _ _) rfl
                simp only [upd, Nat.reduceEqDiff, reduceIte, e0, e1] at h
                exact h
              | 3, ho =>
                obtain rfl := Option.some.inj ho
                intro vs W K hB hD hU hK
                have HK := Lib.hid hK
                have e2 : vs 2 = .pointer (some ⟨b3, o3 + j, none⟩) := dep_of hD 2 (by rfl)
                have c1 := HCl.out W hB
                clear hK hD hU ho
                dsimp only
                go_simp
                have h := HK.out _ _ (Below.refl _ _) rfl
                simp only [upd, Nat.reduceEqDiff, reduceIte, e2] at h
                exact h
              | 4, ho =>
                obtain rfl := Option.some.inj ho
                intro vs W K hB hD hU hK
                have HK := Lib.hid hK
                have e3 : vs 3 = .slice am lm cm := dep_of hD 3 (by rfl)
                clear hK hD hU ho
                dsimp only
                go_simp
                refine (HTop.out W).mono ?_
                rintro e W' ⟨rfl, hb⟩
                have h := HK.out _ _ hb rfl
                simp only [upd, Nat.reduceEqDiff, reduceIte, e3] at h
                exact h
              | 5, ho =>
                obtain rfl := Option.some.inj ho
                intro vs W K hB hD hU hK
                have HK := Lib.hid hK
                have e4 : vs 4 = .bool false := dep_of hD 4 (by rfl)
                clear hK hD hU ho
                dsimp only
                go_simp
                have h := HK.out _ _ (Below.refl _ _) rfl
                simp only [upd, Nat.reduceEqDiff, reduceIte, e4] at h
                exact h
              | 6, ho =>
                obtain rfl := Option.some.inj ho
                intro vs W K hB hD hU hK
                have HK := Lib.hid hK
                have e5 : vs 5 = .bool true := dep_of hD 5 (by rfl)
                clear hK hD hU ho
                dsimp only
                go_simp
                have h := HK.out _ _ (Below.refl _ _) rfl
                simp only [upd, Nat.reduceEqDiff, reduceIte, e5] at h
                exact h
              | 7, ho =>
                obtain rfl := Option.some.inj ho
                intro vs W K hB hD hU hK
                have HK := Lib.hid hK
                have e6 : vs 6 = .bool true := dep_of hD 6 (by rfl)
                clear hK hD hU ho
                dsimp only
                go_simp
                have h := HK.out _ _ (Below.refl _ _) rfl
                simp only [upd, Nat.reduceEqDiff, reduceIte, e6] at h
                exact h
              | 8, ho =>
                obtain rfl := Option.some.inj ho
                intro vs W K hB hD hU hK
                have HK := Lib.hid hK
                have e6 : vs 6 = .bool true := dep_of hD 6 (by rfl)
                clear hK hD hU ho
                dsimp only
                go_simp
                have h := HK.out _ _ (Below.refl _ _) rfl
                simp only [upd, Nat.reduceEqDiff, reduceIte, e6] at h
                exact h
              | 9, ho =>
                obtain rfl := Option.some.inj ho
                intro vs W K hB hD hU hK
                have HK := Lib.hid hK
                have e6 : vs 6 = .bool true := dep_of hD 6 (by rfl)
                have e7 : vs 7 = .slice (some ⟨b3, o3, none⟩) k c3 := dep_of hD 7 (by rfl)
                have e8 : vs 8 = .int .i64 (j : Int) := dep_of hD 8 (by rfl)
                clear hK hD hU ho
                dsimp only
                go_simp
                have h := HK.out _ _ (Below.refl _ _) rfl
                simp only [upd, Nat.reduceEqDiff, reduceIte, e6, e7, e8] at h
                exact h
              | 10, ho =>
                obtain rfl := Option.some.inj ho
                intro vs W K hB hD hU hK
                have HK := Lib.hid hK
                have e6 : vs 6 = .bool true := dep_of hD 6 (by rfl)
                have e9 : vs 9 = .pointer (some ⟨b3, o3 + j, none⟩) := dep_of hD 9 (by rfl)
                have c1 := HCl.out W hB
                clear hK hD hU ho
                dsimp only
                go_simp
                have h := HK.out _ _ (Below.refl _ _) rfl
                simp only [upd, Nat.reduceEqDiff, reduceIte, e6, e9] at h
                exact h
              | 11, ho =>
                obtain rfl := Option.some.inj ho
                intro vs W K hB hD hU hK
                have HK := Lib.hid hK
                have e6 : vs 6 = .bool true := dep_of hD 6 (by rfl)
                obtain ⟨d0, d1, d2⟩ := HGm.out W hB
                clear hK hD hU ho
                dsimp only
                go_simp
                have h := HK.out _ _ (Below.refl _ _) rfl
                simp only [upd, Nat.reduceEqDiff, reduceIte, e6] at h
                exact h
              | 12, ho =>
                obtain rfl := Option.some.inj ho
                intro vs W K hB hD hU hK
                have HK := Lib.hid hK
                have e6 : vs 6 = .bool true := dep_of hD 6 (by rfl)
                clear hK hD hU ho
                dsimp only
                go_simp
                have h := HK.out _ _ (Below.refl _ _) rfl
                simp only [upd, Nat.reduceEqDiff, reduceIte, e6] at h
                exact h
              | 13, ho =>
                obtain rfl := Option.some.inj ho
                intro vs W K hB hD hU hK
                have HK := Lib.hid hK
                have e6 : vs 6 = .bool true := dep_of hD 6 (by rfl)
                clear hK hD hU ho
                dsimp only
                go_simp
                have h := HK.out _ _ (Below.refl _ _) rfl
                simp only [upd, Nat.reduceEqDiff, reduceIte, e6] at h
                exact h
              | 14, ho =>
                obtain rfl := Option.some.inj ho
                intro vs W K hB hD hU hK
                have HK := Lib.hid hK
                have e6 : vs 6 = .bool true := dep_of hD 6 (by rfl)
                clear hK hD hU ho
                dsimp only
                go_simp
                have h := HK.out _ _ (Below.refl _ _) rfl
                simp only [upd, Nat.reduceEqDiff, reduceIte, e6] at h
                exact h
              | 15, ho =>
                obtain rfl := Option.some.inj ho
                intro vs W K hB hD hU hK
                have HK := Lib.hid hK
                have e6 : vs 6 = .bool true := dep_of hD 6 (by rfl)
                have e11 : vs 11 = .agg #[.slice a0 k c0, v1, v2] := dep_of hD 11 (by rfl)
                have e12 : vs 12 = .slice ab L cb := dep_of hD 12 (by rfl)
                have e13 : vs 13 = .slice (some ⟨b3, o3, none⟩) k c3 := dep_of hD 13 (by rfl)
                have e14 : vs 14 = .int .i64 (j : Int) := dep_of hD 14 (by rfl)
                clear hK hD hU ho
                dsimp only
                go_simp
                refine (HOw.out W hB).mono ?_
                rintro e W' ⟨u', rfl, hu, hb⟩
                have h := HK.out _ _ hb (OI.base hu (Nat.zero_le _))
                simp only [upd, Nat.reduceEqDiff, reduceIte, e6, e11, e12, e13, e14] at h
                exact h
              | 16, ho =>
                obtain rfl := Option.some.inj ho
                intro vs W K hB hD hU hK
                have HK := Lib.hid hK
                have e6 : vs 6 = .bool true := dep_of hD 6 (by rfl)
                have e10 : vs 10 = .slice am lm cm := dep_of hD 10 (by rfl)
                have i15 := dep_of (R := RV12 am lm cm a0 k c0 v1 v2 b3 o3 c3 ab L cb j w.heap.size dl lt) hD 15 (by rfl)
                clear hK hD hU ho
                dsimp only
                go_simp
                refine (HLe.out W (vs 15) hB i15).mono ?_
                rintro e W' ⟨rfl, hb⟩
                have h := HK.out _ _ hb rfl
                simp only [upd, Nat.reduceEqDiff, reduceIte, e6, e10] at h
                exact h
              | 17, ho =>
                obtain rfl := Option.some.inj ho
                intro vs W K hB hD hU hK
                have HK := Lib.hid hK
                have e6 : vs 6 = .bool true := dep_of hD 6 (by rfl)
                have e16 : vs 16 = .bool lt := dep_of hD 16 (by rfl)
                clear hK hD hU ho
                dsimp only
                go_simp
                have h := HK.out _ _ (Below.refl _ _) rfl
                simp only [upd, Nat.reduceEqDiff, reduceIte, e6, e16] at h
                exact h
              | q + 18, ho => exact absurd ho (by simp)
            case fin =>
            intro vs w5 hB hall
            have e17 : vs 17 = .bool lt := hall 17 (by decide)
            have HB3 := Lib.hid (HBD.out _ hB)
            clear hall hB HTop HCl HGm HOw HLe
            rw [e17]
            clear e17
            generalize vs 0 = z0q
            generalize vs 1 = z1q
            generalize vs 2 = z2q
            generalize vs 3 = z3q
            generalize vs 4 = z4q
            generalize vs 5 = z5q
            generalize vs 6 = z6q
            generalize vs 7 = z7q
            generalize vs 8 = z8q
            generalize vs 9 = z9q
            generalize vs 10 = z10q
            generalize vs 11 = z11q
            generalize vs 12 = z12q
            generalize vs 13 = z13q
            generalize vs 14 = z14q
            generalize vs 15 = z15q
            generalize vs 16 = z16q
            clear vs
            cases lt with
            | true =>
              have HE := Lib.hid (HK0.out j hlt (by have := of_decide_eq_true HLT.out; omega))
              go_wp2
              go_ret
              exact ⟨ret_bool HE.out.symm, HBY.out.trans (HB3.out.mono HBY.out.size)⟩
            | false =>
              have HRK2 := Lib.hid (HRK.out (by have := of_decide_eq_false HLT.out; omega))
              go_wp2
              go_roundg (k - (j + 1))
              case measure => have := HGJ.out; omega
              case rel => exact ⟨j + 1, rfl, by go_num, by omega, HRK2, HB.out.trans (HB3.out.mono HB.out.size)⟩
        · as_aux_lemma =>
          obtain rfl : j = k := by omega
          have i1 : ¬ (j : Int) < (j : Int) := by omega
          have HE := Lib.hid (HY3.out HJ.out)
          go_wp2
          go_ret
          exact ⟨ret_bool HE.out.symm, HBY.out⟩

end Go.Proofs.Ytijkjhcigdfdgaa
