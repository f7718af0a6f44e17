/- The walk of SolveStrategies. -/
import Derived.Test.YtjhafakkadnfmaaSo41
import Derived.Test.YtjhafakkadnfmaaSo45
namespace Go.Proofs.Ytjhafakkadnfmaa
open Go.RowKit

def RSg (ao0 ao1 ao2 : Option Addr) (cap0 cap1 cap2 : Nat) (g : Gm) (p : Nat) (ix : Nat) (v : Value) (W : World) : Prop :=
  match ix with
  | 0 => v = (.agg #[Value.slice ao0 g.owner.length cap0, Value.slice ao1 g.prio.length cap1, Value.slice ao2 g.succ.length cap2])
  | 1 => v = (.agg #[Value.slice ao0 g.owner.length cap0, Value.slice ao1 g.prio.length cap1, Value.slice ao2 g.succ.length cap2])
  | 2 => IsInts W v (solR g)
  | 3 => v = .int .i64 (p : Int)
  | 4 => IsBools W v (setP (solR g) (p : Int))
  | 5 => IsBools W v (setP (solR g) (p : Int))
  | _ => True
theorem RSg.mono (ao0 ao1 ao2 : Option Addr) (cap0 cap1 cap2 : Nat) (g : Gm) (p : Nat) (ix : Nat) (v : Value) (W W' : World) (h : RSg ao0 ao1 ao2 cap0 cap1 cap2 g p ix v W) (hb : Below W.heap.size W W') : RSg ao0 ao1 ao2 cap0 cap1 cap2 g p ix v W' := by
  unfold RSg at *
  split at h <;> first | exact h | exact IsInts.below h hb | exact IsBools.below h hb
def R32 (sb n k br fr cr be oe L ce rs d : Nat) (c : Int) (ix : Nat) (v : Value) (_ : World) : Prop :=
  match ix with
  | 0 => v = .slice (some ⟨sb, 0, none⟩) n n
  | 1 => v = .int .i64 (k : Int)
  | 2 => v = .slice (some ⟨br, fr, none⟩) n cr
  | 3 => v = .int .i64 (k : Int)
  | 4 => v = .pointer (some ⟨br, fr + k, none⟩)
  | 5 => v = .slice (some ⟨be, oe, none⟩) L ce
  | 6 => v = .int .i64 (rs : Int)
  | 7 => v = .slice (some ⟨br, fr, none⟩) n cr
  | 8 => v = .int .i64 (k : Int)
  | 9 => v = .pointer (some ⟨br, fr + k, none⟩)
  | 10 => v = .slice (some ⟨be, oe, none⟩) L ce
  | 11 => v = .int .i64 (L : Int)
  | 12 => v = .int .i64 (d : Int)
  | 13 => v = .pointer (some ⟨be, oe + d, none⟩)
  | 14 => v = .int .i64 c
  | 15 => v = .pointer (some ⟨sb, k, none⟩)
  | _ => True
theorem R32.mono (sb n k br fr cr be oe L ce rs d : Nat) (c : Int) (ix : Nat) (v : Value) (W W' : World) (h : R32 sb n k br fr cr be oe L ce rs d c ix v W) (_ : Below W.heap.size W W') : R32 sb n k br fr cr be oe L ce rs d c ix v W' := by
  unfold R32 at *
  split at h <;> exact h

theorem st_sets {g : Gm} (hv : validB g = true) {p : Int} (hp : p = 0 ∨ p = 1) :
    (∀ i, i < g.owner.length → (setP (solR g) p).getD i false = true → g.owner.getD i 0 = p → (chR g p (setP (solR g) p) i).length ≠ 0) ∧
    (∀ i, i < g.owner.length → (setP (solR g) p).getD i false = true → g.owner.getD i 0 ≠ p → ∀ x : Nat, (x : Int) ∈ g.succ.getD i [] → x < g.owner.length → (setP (solR g) p).getD x false = true) := by
  have hg : ∀ i, i < g.owner.length → ((setP (solR g) p).getD i false = true ↔ (solR g).getD i 0 = p) := fun i hi => by rw [setP_get _ _ _ (by rw [solR_len hv]; exact hi)]; simp
  obtain ⟨σ, hD⟩ := (((solR_is g).2 hv).2).dom hp
  refine ⟨fun i hi hs ho => ?_, fun i hi hs ho x hx hxn => ?_⟩
  · obtain ⟨h1, h2⟩ := hD.mine i ⟨hi, (hg i hi).1 hs⟩ ho
    have : ((σ i : Nat) : Int) ∈ chR g p (setP (solR g) p) i := by
      unfold chR
      rw [if_pos (by rw [Bool.and_eq_true, decide_eq_true_eq]; exact ⟨hs, ho⟩)]
      refine List.mem_filter.2 ⟨h1, ?_⟩
      unfold inS
      rw [Int.toNat_natCast]
      exact (hg _ h2.1).2 h2.2
    intro e
    rw [List.eq_nil_of_length_eq_zero e] at this
    cases this
  · exact (hg x hxn).2 (hD.other i ⟨hi, (hg i hi).1 hs⟩ ho x hx hxn).2

theorem getD_mem0 (l : List Int) (i : Nat) : l.getD i 0 = 0 ∨ l.getD i 0 ∈ l := by
  rcases Nat.lt_or_ge i l.length with h | h
  · rw [getD_lt _ _ _ h]; exact .inr (List.getElem_mem h)
  · exact .inl (by simp [List.getD, List.getElem?_eq_none h])
theorem stK_I64 (all : List (List Int)) (h : ∀ i, ∀ x ∈ all.getD i [], I64 x) (m k : Nat) : ∀ x ∈ (stK all m k).1, I64 x := by
  induction k with
  | zero => intro x hx; cases hx
  | succ k ih =>
    intro x hx
    rw [stK] at hx
    split at hx
    · rcases List.mem_append.1 hx with hx | hx
      · exact ih x hx
      · rw [List.mem_singleton.1 hx]; unfold I64; omega
    · rcases List.mem_append.1 hx with hx | hx
      · exact ih x hx
      · rw [List.mem_singleton.1 hx]
        rcases getD_mem0 (all.getD k []) ((stK all m k).2 % (all.getD k []).length) with e | e
        · rw [e]; unfold I64; omega
        · exact h k _ e
theorem OI.atY {w : World} {base g n cap : Nat} {l : List Int} (h : OI w base (.slice (some ⟨g, 0, none⟩) n cap) l) (hn : n = l.length) (j : Nat) (hj : j < l.length) : w.cell? ⟨g, j, none⟩ = some (.int .i64 (l.getD j 0)) := by
  rw [getD_lt _ _ _ hj]; exact h.at' hn j hj
theorem take_set_nx (l : List Int) (k : Nat) (b : Int) (h : k < l.length) : (l.set k b).take (k + 1) = l.take k ++ [b] := by
  rw [List.take_succ_eq_append_getElem (by simpa using h), List.take_set_of_le (Nat.le_refl _)]; simp

set_option maxRecDepth 100000 in
set_option maxHeartbeats 16000000 in
theorem Strat_w (w : World) (vg : Value) (g : Gm) (who : Int) (hg : IsGame w vg g) (hwho : 0 ≤ who ∧ who ≤ 255) :
    Calls Try.prog 5 #[vg, .int .u8 who] w (Calm (.bool true) w) := by
  obtain ⟨v0, v1, v2, rfl, i0, i1, i2⟩ := id hg
  have HG := Lib.hid hg
  clear hg
  obtain ⟨⟨ao0, cap0, b0, off0, rfl, -⟩, -⟩ := i0
  obtain ⟨⟨ao1, cap1, b1, off1, rfl, -⟩, -⟩ := i1
  obtain ⟨V, ⟨ao2, cap2, b2, off2, rfl, -⟩, -⟩ := i2
  obtain ⟨who, rfl⟩ : ∃ k : Nat, who = k := ⟨who.toNat, by omega⟩
  have hmx : Try.prog.follows .mixedOrders = true := by kernel_rfl
  go_enter Try.func5, Try.ntmps5
  go_upto_region 1 with (fail)
  have hbg := boxGame (w := w) (v0 := Value.slice ao0 g.owner.length cap0) (v1 := Value.slice ao1 g.prio.length cap1) (v2 := Value.slice ao2 g.succ.length cap2)
  generalize (w.alloc (Obj.cells #[Value.slice ao0 g.owner.length cap0, Value.slice ao1 g.prio.length cap1, Value.slice ao2 g.succ.length cap2] 25)) = w1 at *
  have HBX : Hid (∀ W, Below w1.heap.size w1 W → W.heap[w.heap.size]? = some (Obj.cells #[Value.slice ao0 g.owner.length cap0, Value.slice ao1 g.prio.length cap1, Value.slice ao2 g.succ.length cap2] 25 (0, 0))) := fun W hW => (hW.block _ (Array.getElem?_eq_some_iff.1 hbg.1).1).trans hbg.1
  have HB := Lib.hid hbg.2
  clear hbg
  go_wp2_with fail
  refine (head_c w1).mono ?_
  rintro e w2 ⟨rfl, hW⟩
  have hX := HBX.out w2 hW
  have d0 := cell_of_row _ _ 0 _ _ _ hX
  have d1 := cell_of_row _ _ 1 _ _ _ hX
  have d2 := cell_of_row _ _ 2 _ _ _ hX
  go_wp2_with fail
  refine (small_c w2 _ g 7 (HG.out.below (HB.out.trans (hW.mono HB.out.size)))).mono ?_
  rintro e w3 ⟨rfl, hb⟩
  replace hW := hW.trans (hb.mono hW.size)
  clear hb hX d0 d1 d2
  cases hsm : smallV g 7 with
  | false =>
    have hF := HB.out.trans (hW.mono HB.out.size)
    go_wp2
    go_ret
    exact ⟨rfl, hF⟩
  | true =>
    have hsm2 : smallB g 7 = true ∧ validB g = true := by unfold smallV at hsm; rwa [Bool.and_eq_true] at hsm
    have HV := Lib.hid hsm2.2
    have hs7 : g.owner.length ≤ 7 := by have h := hsm2.1; unfold smallB at h; simp only [Bool.and_eq_true, decide_eq_true_eq] at h; omega
    have HSl := Lib.hid (small_sl hsm2.1)
    clear hsm hsm2
    have HON : Hid (g.owner.length ≤ 7 ∧ g.owner.length ≤ 3000 ∧ g.prio.length = g.owner.length ∧ g.succ.length = g.owner.length) := by
      show _ ∧ _
      obtain ⟨la, lb, lc⟩ := valid_lens HV.out
      exact ⟨hs7, la, lb, lc⟩
    have hn7 := HON.out.1
    obtain ⟨n, hne⟩ : ∃ n, n = g.owner.length := ⟨_, rfl⟩
    have HNE := Lib.hid hne
    rw [← hne] at hn7
    have hw3 := hW
    have hX := HBX.out w3 hW
    have d2 := cell_of_row _ _ 2 _ _ _ hX
    rw [HON.out.2.2.2, ← hne] at d2
    have HF3 := Lib.hid (HB.out.trans (hW.mono HB.out.size))
    have HBX3 : Hid (∀ W, Below w3.heap.size w3 W → W.heap[w.heap.size]? = some (Obj.cells #[Value.slice ao0 g.owner.length cap0, Value.slice ao1 g.prio.length cap1, Value.slice ao2 g.succ.length cap2] 25 (0, 0))) := fun W h => HBX.out W (hW.trans (h.mono hW.size))
    have HG3 : Hid (∀ W, Below w3.heap.size w3 W → IsGame W (.agg #[Value.slice ao0 g.owner.length cap0, Value.slice ao1 g.prio.length cap1, Value.slice ao2 g.succ.length cap2]) g) := fun W h => HG.out.below (HF3.out.trans (h.mono HF3.out.size))
    clear hX HBX HB hW hw3 hne hs7 HG
    have HI2 : Hid (∃ V : Nat → Value, ∃ b0 off0 b2 off2, ArrAt w3 ao0 cap0 b0 off0 n (ivF g.owner) ∧ ArrAt w3 ao2 cap2 b2 off2 n V ∧ ∀ j, j < n → IsInts w3 (V j) (g.succ.getD j [])) := by
      obtain ⟨v0, v1, v2, he, ⟨⟨a', c', b', o', hv', hA'⟩, -⟩, -, V, ⟨a, c, b, o, hv, hA⟩, hr⟩ := HG3.out w3 (Below.refl _ _)
      simp only [Value.agg.injEq, Array.mk.injEq, List.cons.injEq, and_true] at he
      obtain ⟨rfl, -, rfl⟩ := he
      simp only [Value.slice.injEq, true_and] at hv hv'
      obtain ⟨rfl, rfl⟩ := hv
      obtain ⟨rfl, rfl⟩ := hv'
      have hl : g.succ.length = n := by rw [HNE.out]; exact HON.out.2.2.2
      rw [hl] at hA hr
      rw [← HNE.out] at hA'
      exact ⟨V, b', o', b, o, hA', hA, hr⟩
    obtain ⟨V, b0, off0, b2, off2, g0, g2, hr⟩ := HI2.out
    have HR := Lib.hid hr
    clear hr HI2
    go_wp2
    clear d2
    go_loopg [6] n (fun gh i wr => ∃ k : Nat, gh = n - k ∧ i = .int .i64 k ∧ k ≤ n ∧ w3 = wr ∧ Hid (∀ j, j < k → (g.succ.getD j []).length ≤ 3))
    case atStart => exact ⟨0, by omega, rfl, by omega, rfl, fun j hj => absurd hj (by omega)⟩
    case round => as_aux_lemma =>
      obtain ⟨k, hgk, rfl, hk, rfl, HS3⟩ := hrel
      have HGK := Lib.hid hgk
      clear hgk
      have hX := HBX3.out w3 (Below.refl _ _)
      have d2 := cell_of_row _ _ 2 _ _ _ hX
      rw [HON.out.2.2.2, ← HNE.out] at d2
      by_cases hlt : k < n
      · obtain rfl := g2.ad (by omega)
        have cv := g2.el k hlt
        obtain ⟨⟨ao3, cap3, b3, off3, hv3, -⟩, -⟩ := HR.out k hlt
        rw [hv3] at cv
        clear hv3 hX
        by_cases hg3 : 3 < (g.succ.getD k []).length
        · have hdc : decide ((3 : Int) < ((g.succ.getD k []).length : Int)) = true := decide_eq_true (by omega)
          generalize (g.succ.getD k []).length = L at *
          clear hg3
          go_wp2
          go_ret
          exact ⟨rfl, HF3.out⟩
        · have hdc : decide ((3 : Int) < ((g.succ.getD k []).length : Int)) = false := decide_eq_false (by omega)
          have HS4 : Hid (∀ j, j < k + 1 → (g.succ.getD j []).length ≤ 3) := fun j hj => by
            rcases (by omega : j < k ∨ k = j) with h | rfl
            · exact HS3.out j h
            · omega
          generalize (g.succ.getD k []).length = L at *
          clear hg3
          go_wp2
          go_roundg (n - (k + 1))
          case measure => have := HGK.out; omega
          case rel => exact ⟨k + 1, rfl, by go_num, by omega, rfl, HS4⟩
      · obtain rfl : n = k := by omega
        have H3 : Hid (∀ i, (g.succ.getD i []).length ≤ 3) := fun i => by
          rcases Nat.lt_or_ge i n with h | h
          · exact HS3.out i h
          · have h1 := HON.out.2.2.2
            have h2 := HNE.out
            simp [List.getD, List.getElem?_eq_none (by omega : g.succ.length ≤ i)]
        have htm : ((who : Int)).tmod 2 = ((who % 2 : Nat) : Int) := (Int.ofNat_tmod who 2).symm
        have hm9 := Nat.mod_lt who (show 0 < 2 by omega)
        have hw1 : IntKind.i64.wrap (who : Int) = (who : Int) := IntWalk.i64_in _ ⟨by omega, by omega⟩
        have hw2 : IntKind.i64.wrap ((who % 2 : Nat) : Int) = ((who % 2 : Nat) : Int) := IntWalk.i64_in _ ⟨by omega, by omega⟩
        generalize who % 2 = p at *
        have hp : (p : Int) = 0 ∨ (p : Int) = 1 := by omega
        have HP := Lib.hid hp
        clear hp
        have HSL : Hid ((solR g).length = g.owner.length) := solR_len HV.out
        have HOl : Hid ((setP (solR g) (p : Int)).length = g.owner.length) := by show _ = _; rw [setP_len, HSL.out]
        clear hX
        go_wp2_with fail
        go_upto_region 10 with (fail)
        clear htm hw1 hw2 d2
        refine region_stable hmx (RSg ao0 ao1 ao2 cap0 cap1 cap2 g p) (fun vs => { tmps := (_ :: _ :: _ :: _ :: _ :: _ :: _ :: _ :: vs 5 :: _ :: _ :: _ :: _ :: _ :: _ :: _ :: _ :: _ :: _ :: _ :: _ :: _ :: _ :: _ :: _ :: _ :: _ :: _ :: _ :: _ :: _ :: _ :: _ :: _ :: _ :: _ :: _ :: _ :: _ :: _ :: vs 0 :: vs 1 :: vs 2 :: vs 3 :: vs 4 :: _ :: _ :: _ :: _ :: _ :: _ :: _ :: _ :: _ :: _ :: _ :: _ :: _ :: _ :: _ :: _ :: _ :: _ :: _ :: _ :: _ :: _ :: _ :: _ :: _ :: _ :: _ :: _ :: _ :: _ :: _ :: _ :: _ :: _ :: _ :: _ :: _ :: _ :: _ :: _ :: _ :: _ :: _ :: _ :: _ :: _ :: _ :: _ :: _ :: _ :: _ :: _ :: _ :: _ :: _ :: _ :: _ :: _ :: _ :: _ :: _ :: _ :: _ :: _ :: _ :: _ :: _ :: _ :: _ :: _ :: _ :: _ :: _ :: _ :: _ :: _ :: _ :: _ :: _ :: _ :: _ :: _ :: _ :: _ :: _ :: _ :: _ :: _ :: _ :: _ :: _ :: _ :: _ :: _ :: _ :: _ :: _ :: _ :: _ :: _ :: _ :: _ :: _ :: _ :: _ :: _ :: _ :: _ :: _ :: _ :: _ :: _ :: _ :: _ :: _ :: _ :: _ :: _ :: _ :: _ :: _ :: _ :: _ :: _ :: _ :: _ :: _ :: []).toArray, defers := [] }) (fun _ => undef) rfl (by kernel_rfl) (RSg.mono ao0 ao1 ao2 cap0 cap1 cap2 g p) ?step ?fin
        case step =>
          have HD : Hid (∀ W, Below w3.drew.heap.size w3.drew W → Below w3.heap.size w3 W) := fun W h => (Below.drew (Below.refl _ _)).trans h
          intro ix o ho
          match ix, ho with
          | 0, ho =>
            obtain rfl := Option.some.inj ho
            intro vs W K hB hD hK
            have HK := Lib.hid hK
            have hX := HBX3.out W (HD.out W hB)
            have d0 := cell_of_row _ _ 0 _ _ _ hX
            have d1 := cell_of_row _ _ 1 _ _ _ hX
            have d2 := cell_of_row _ _ 2 _ _ _ hX
            clear hK hD ho
            dsimp only
            go_simp
            have h := HK.out _ _ (Below.refl _ _) rfl
            simp only [upd, Nat.reduceEqDiff, reduceIte] at h
            exact h
          | 1, ho =>
            obtain rfl := Option.some.inj ho
            intro vs W K hB hD hK
            have HK := Lib.hid hK
            have hX := HBX3.out W (HD.out W hB)
            have d0 := cell_of_row _ _ 0 _ _ _ hX
            have d1 := cell_of_row _ _ 1 _ _ _ hX
            have d2 := cell_of_row _ _ 2 _ _ _ hX
            clear hK hD ho
            dsimp only
            go_simp
            have h := HK.out _ _ (Below.refl _ _) rfl
            simp only [upd, Nat.reduceEqDiff, reduceIte] at h
            exact h
          | 2, ho =>
            obtain rfl := Option.some.inj ho
            intro vs W K hB hD hK
            have HK := Lib.hid hK
            have e1 : vs 1 = (.agg #[Value.slice ao0 g.owner.length cap0, Value.slice ao1 g.prio.length cap1, Value.slice ao2 g.succ.length cap2]) := dep_of hD 1 (by rfl)
            clear hK hD ho
            dsimp only
            go_simp
            refine (SolveR_c W _ g (HG3.out W (HD.out W hB)) HSl.out).mono ?_
            rintro e W' ⟨v, rfl, hv, hb⟩
            have h := HK.out _ _ hb hv
            simp only [upd, Nat.reduceEqDiff, reduceIte, e1] at h
            exact h
          | 3, ho =>
            obtain rfl := Option.some.inj ho
            intro vs W K hB hD hK
            have HK := Lib.hid hK
            clear hK hD ho
            dsimp only
            go_simp
            have h := HK.out _ _ (Below.refl _ _) rfl
            simp only [upd, Nat.reduceEqDiff, reduceIte] at h
            exact h
          | 4, ho =>
            obtain rfl := Option.some.inj ho
            intro vs W K hB hD hK
            have HK := Lib.hid hK
            have e0 : vs 0 = (.agg #[Value.slice ao0 g.owner.length cap0, Value.slice ao1 g.prio.length cap1, Value.slice ao2 g.succ.length cap2]) := dep_of hD 0 (by rfl)
            have d2 : IsInts W (vs 2) (solR g) := dep_of hD 2 (by rfl)
            have e3 : vs 3 = .int .i64 (p : Int) := dep_of hD 3 (by rfl)
            clear hK hD ho
            dsimp only
            go_simp
            refine (won_c W _ _ g (solR g) (p : Int) (HG3.out W (HD.out W hB)) d2 (by rw [HSL.out, HON.out.2.2.2]) (by rw [HSL.out]; exact Nat.le_trans HON.out.1 (by omega))).mono ?_
            rintro e W' ⟨v, rfl, hv, hb⟩
            have h := HK.out _ _ hb (hv.is (by rw [HOl.out]; have := HON.out.1; unfold maxN; omega))
            simp only [upd, Nat.reduceEqDiff, reduceIte, e0, e3] at h
            exact h
          | 5, ho =>
            obtain rfl := Option.some.inj ho
            intro vs W K hB hD hK
            have HK := Lib.hid hK
            have d4 : IsBools W (vs 4) (setP (solR g) (p : Int)) := dep_of hD 4 (by rfl)
            clear hK hD ho
            dsimp only
            go_simp
            have h := HK.out _ _ (Below.refl _ _) d4
            simp only [upd, Nat.reduceEqDiff, reduceIte] at h
            exact h
          | n + 6, ho => simp at ho
        case fin =>
          intro vs W3 hB hall
          have H5 : Hid (IsBools W3 (vs 5) (setP (solR g) (p : Int))) := hall 5 (by decide)
          have HW3 : Hid (Below w3.heap.size w3 W3) := (Below.drew (Below.refl _ _)).trans hB
          clear hall hB
          generalize vs 0 = q0
          generalize vs 1 = q1
          generalize vs 2 = q2
          generalize vs 3 = q3
          generalize vs 4 = q4
          generalize vs 5 = q5 at *
          clear vs
          have HSS := Lib.hid (st_sets HV.out HP.out)
          have HST := Lib.hid (some_st HV.out HP.out _ rfl)
          have HRG : Hid (∀ i, i < n → ∀ x ∈ g.succ.getD i [], ∃ v : Nat, x = v ∧ v < n) := by
            show ∀ _, _
            rw [HNE.out]; exact valid_rg HV.out
          rw [← HNE.out] at HSS HST HOl
          generalize hss : setP (solR g) (p : Int) = s at *
          clear hss
          have hX := HBX3.out W3 HW3.out
          have d0 := cell_of_row _ _ 0 _ _ _ hX
          have d1 := cell_of_row _ _ 1 _ _ _ hX
          have d2 := cell_of_row _ _ 2 _ _ _ hX
          go_wp2_with fail
          refine (choices_c W3 _ _ g p s n (HG3.out W3 HW3.out) H5.out HOl.out HNE.out.symm (by rw [HNE.out]; exact HON.out.2.2.2) hn7 H3.out HRG.out).mono ?_
          rintro e W4 ⟨vr, rfl, hrows, hb4⟩
          have HW4 := Lib.hid (HW3.out.trans (hb4.mono HW3.out.size))
          have HB4 := Lib.hid (H5.out.below hb4)
          clear hb4 hX d0 d1 d2 H5
          have HAT : Hid (∀ i, i < n → (chL g p s n).getD i [] = chR g p s i) := fun i hi => chL_at _ _ _ _ _ hi
          have HLA : Hid ((chL g p s n).length = n) := chL_len _ _ _ _
          have HT7 : Hid (totK (chL g p s n) n ≤ 2187) := totK_le7 _ _ hn7 fun j => by
            rcases Nat.lt_or_ge j n with h | h
            · rw [chL_at _ _ _ _ _ h]; exact chR_len _ _ _ _ _ (H3.out j)
            · simp [chL, List.getD, Nat.not_lt.2 h]
          rw [HNE.out] at HST
          rw [← HNE.out] at HST
          generalize chL g p s n = all at *
          obtain ⟨VR, ⟨ar, cr, br, fr, rfl, gr⟩, hrr⟩ := hrows
          rw [HLA.out] at gr hrr ⊢
          have HRR := Lib.hid hrr
          have HGR := Lib.hid gr
          clear gr hrr
          obtain ⟨az, cz, bz, oz, rfl, gz⟩ := id HB4.out
          rw [HOl.out] at gz ⊢
          have HB5 : Hid (IsBools W4 (Value.slice az n cz) s) := by have := HB4.out; rwa [HOl.out] at this
          have HGZ := Lib.hid gz
          have HBX4 : Hid (∀ W, Below W4.heap.size W4 W → W.cell? ⟨w.heap.size, 0, none⟩ = some (Value.slice ao0 n cap0) ∧ W.cell? ⟨w.heap.size, 1, none⟩ = some (Value.slice ao1 g.prio.length cap1) ∧ W.cell? ⟨w.heap.size, 2, none⟩ = some (Value.slice ao2 n cap2)) := fun W h => by
            have hX := HBX3.out W (HW4.out.trans (h.mono HW4.out.size))
            have h1 := HNE.out
            have h2 := HON.out.2.2.2
            have d0 := cell_of_row _ _ 0 _ _ _ hX
            have d2 := cell_of_row _ _ 2 _ _ _ hX
            rw [← h1] at d0
            rw [h2, ← h1] at d2
            exact ⟨d0, cell_of_row _ _ 1 _ _ _ hX, d2⟩
          have HG0 := Lib.hid g0
          have HG2 := Lib.hid g2
          clear gz HB4 g0 g2
          obtain ⟨-, -, d2⟩ := HBX4.out W4 (Below.refl _ _)
          go_wp2
          clear d2
          go_loopg [11] n (fun gh i wr => ∃ k : Nat, gh = n - k ∧ i = .int .i64 k ∧ k ≤ n ∧ W4 = wr)
          case atStart => exact ⟨0, by omega, rfl, by omega, rfl⟩
          case round => as_aux_lemma =>
            obtain ⟨k, hgk, rfl, hk, rfl⟩ := hrel
            have HGK := Lib.hid hgk
            clear hgk
            obtain ⟨d0, d1, d2⟩ := HBX4.out W4 (Below.refl _ _)
            by_cases hlt : k < n
            · have gz := HGZ.out
              have gr := HGR.out
              have g0 := HG0.out
              have g2 := HG2.out
              obtain rfl := gz.ad (by omega)
              obtain rfl := gr.ad (by omega)
              obtain rfl := g0.ad (by omega)
              obtain rfl := g2.ad (by omega)
              have c1 := gz.el k hlt
              have c2 := cellB HW4.out (g0.el k hlt)
              have c3 := gr.el k hlt
              have c4 := cellB HW4.out (g2.el k hlt)
              unfold bvF at c1
              unfold ivF at c2
              obtain ⟨⟨ae, ce, be, oe, hve, -⟩, -⟩ := HRR.out k hlt
              rw [hve] at c3
              obtain ⟨⟨ao3, cap3, b3, off3, hv3, g3⟩, -⟩ := HR.out k hlt
              rw [hv3] at c4
              have HL0 : Hid (s.getD k false = true → g.owner.getD k 0 = p → (all.getD k []).length ≠ 0) := fun h1 h2 => by rw [HAT.out k hlt]; exact HSS.out.1 k hlt h1 h2
              have HOT : Hid (s.getD k false = true → g.owner.getD k 0 ≠ p → ∀ x : Nat, (x : Int) ∈ g.succ.getD k [] → x < n → s.getD x false = true) := HSS.out.2 k hlt
              have HRGK := Lib.hid (HRG.out k hlt)
              clear hve hv3 gr g0 g2
              generalize (all.getD k []).length = L at *
              generalize g.owner.getD k 0 = ow at *
              generalize hx : s.getD k false = x at *
              have HX := Lib.hid hx
              generalize g.succ.getD k [] = row at *
              have hn3 := g3.nb
              clear hx
              have HC2 := Lib.hid c2
              have HC4 := Lib.hid c4
              have HC1 := Lib.hid c1
              have hsplit : x = false ∨ (x = true ∧ ow = (p : Int)) ∨ (x = true ∧ ow ≠ (p : Int)) := by
                cases x
                · exact .inl rfl
                · by_cases h : ow = (p : Int)
                  · exact .inr (.inl ⟨rfl, h⟩)
                  · exact .inr (.inr ⟨rfl, h⟩)
              rcases hsplit with rfl | ⟨rfl, rfl⟩ | ⟨rfl, ho⟩
              · clear c2 c3 c4 d0 d1
                go_wp2
                clear c1
                go_loopg [12] row.length (fun gh i wr => ∃ m : Nat, gh = row.length - m ∧ i = .int .i64 m ∧ m ≤ row.length ∧ W4 = wr)
                case atStart => exact ⟨0, by omega, rfl, by omega, rfl⟩
                case round => as_aux_lemma =>
                  obtain ⟨m, hgm, rfl, hm, rfl⟩ := hrel
                  have HGM := Lib.hid hgm
                  clear hgm
                  have c4 := HC4.out
                  have c1 := HC1.out
                  by_cases hltm : m < row.length
                  · go_wp2
                    go_roundg (row.length - (m + 1))
                    case measure => have := HGM.out; omega
                    case rel => exact ⟨m + 1, rfl, by go_num, by omega, rfl⟩
                  · obtain rfl : m = row.length := by omega
                    go_wp2
                    go_roundg (n - (k + 1))
                    case measure => have := HGK.out; omega
                    case rel => exact ⟨k + 1, rfl, by go_num, by omega, rfl⟩
              · have hl0 : ((L : Int) == 0) = false := by have := HL0.out rfl rfl; simp; omega
                have hq1 : ((p : Int) == (p : Int)) = true := by simp
                have hq2 : ((p : Int) != (p : Int)) = false := by simp
                clear c4 d1
                go_wp2
                clear c1 c2 c3
                go_loopg [12] row.length (fun gh i wr => ∃ m : Nat, gh = row.length - m ∧ i = .int .i64 m ∧ m ≤ row.length ∧ W4 = wr)
                case atStart => exact ⟨0, by omega, rfl, by omega, rfl⟩
                case round => as_aux_lemma =>
                  obtain ⟨m, hgm, rfl, hm, rfl⟩ := hrel
                  have HGM := Lib.hid hgm
                  clear hgm
                  have c4 := HC4.out
                  have c1 := HC1.out
                  have c2 := HC2.out
                  by_cases hltm : m < row.length
                  · go_wp2
                    go_roundg (row.length - (m + 1))
                    case measure => have := HGM.out; omega
                    case rel => exact ⟨m + 1, rfl, by go_num, by omega, rfl⟩
                  · obtain rfl : m = row.length := by omega
                    go_wp2
                    go_roundg (n - (k + 1))
                    case measure => have := HGK.out; omega
                    case rel => exact ⟨k + 1, rfl, by go_num, by omega, rfl⟩
              · have hq1 : (ow == (p : Int)) = false := by simpa using ho
                have hq2 : (ow != (p : Int)) = true := by simpa using ho
                have HOT2 := Lib.hid (HOT.out rfl ho)
                clear c4 d1 c3 ho
                go_wp2
                clear c1 c2
                go_loopg [12] row.length (fun gh i wr => ∃ m : Nat, gh = row.length - m ∧ i = .int .i64 m ∧ m ≤ row.length ∧ W4 = wr)
                case atStart => exact ⟨0, by omega, rfl, by omega, rfl⟩
                case round => as_aux_lemma =>
                  obtain ⟨m, hgm, rfl, hm, rfl⟩ := hrel
                  have HGM := Lib.hid hgm
                  clear hgm
                  have c4 := HC4.out
                  have c1 := HC1.out
                  have c2 := HC2.out
                  by_cases hltm : m < row.length
                  · obtain rfl := g3.ad (by omega)
                    have c5 := cellB HW4.out (g3.el m hltm)
                    unfold ivF at c5
                    rw [getD_lt _ _ _ hltm] at c5
                    obtain ⟨q, hq, hqn⟩ := HRGK.out _ (List.getElem_mem hltm)
                    have hsq := HOT2.out q (by rw [← hq]; exact List.getElem_mem hltm) hqn
                    rw [hq] at c5
                    have c6 := gz.el q hqn
                    unfold bvF at c6
                    rw [hsq] at c6
                    clear hq hsq
                    go_wp2
                    go_roundg (row.length - (m + 1))
                    case measure => have := HGM.out; omega
                    case rel => exact ⟨m + 1, rfl, by go_num, by omega, rfl⟩
                  · obtain rfl : m = row.length := by omega
                    go_wp2
                    go_roundg (n - (k + 1))
                    case measure => have := HGK.out; omega
                    case rel => exact ⟨k + 1, rfl, by go_num, by omega, rfl⟩
            · obtain rfl : n = k := by omega
              obtain ⟨ms, hms, hbad⟩ := HST.out
              have HBAD := Lib.hid hbad
              have HMS := Lib.hid hms
              have hT := HT7.out
              obtain ⟨T, hTe⟩ : ∃ T, T = totK all n := ⟨_, rfl⟩
              rw [← hTe] at hT hms HMS ⊢
              clear hbad hTe d0 d1
              go_wp2
              clear d2
              go_loopg [13] T (fun gh v wr => ∃ m : Nat, gh = T - m ∧ v = .int .i64 m ∧ m ≤ ms ∧ Below W4.heap.size W4 wr)
              case atStart => exact ⟨0, by omega, rfl, by omega, Below.refl _ _⟩
              case round => as_aux_lemma =>
                obtain ⟨m, hgm, rfl, hm, hBw⟩ := hrel
                have HGM := Lib.hid hgm
                have HBW := Lib.hid hBw
                have hsz := hBw.size
                obtain ⟨-, -, d2⟩ := HBX4.out wr hBw
                have hmT : m < T := by omega
                clear hgm hBw
                go_wp2_with (at_make; refine mk_int rfl _ _ _ Try.underlying22 rfl wr.heap.size _ n rfl rfl rfl (by omega) (Nat.le_refl _) ?_; intro w5 hown5 hg5)
                have hb5 : Below wr.heap.size wr w5 := (Below.refl _ _).grown hg5 (Nat.le_refl _) (fun k hk => by cases hk)
                clear d2 hg5
                obtain ⟨sb, hsb⟩ : ∃ sb, sb = wr.heap.size := ⟨_, rfl⟩
                rw [← hsb] at hown5 hb5 ⊢
                have HSZ : Hid (W4.heap.size ≤ sb) := by show _ ≤ _; rw [hsb]; exact hsz
                obtain ⟨w0, rfl⟩ : ∃ w0 : World, w0 = wr := ⟨_, rfl⟩
                have HSB := Lib.hid hsb
                clear hsb hsz
                go_loopg [15, 16] n (fun gh rv iv wy => ∃ (k : Nat) (l : List Int), gh = n - k ∧ rv = .int .i64 ((stK all m k).2 : Nat) ∧ iv = .int .i64 k ∧ k ≤ n ∧ Below sb w0 wy ∧ OI wy sb (.slice (some ⟨sb, 0, none⟩) n n) l ∧ Hid (l.length = n) ∧ Hid (l.take k = (stK all m k).1))
                case atStart => exact ⟨0, _, by omega, rfl, rfl, by omega, hb5, hown5, List.length_replicate, by simp [Hid, stK]⟩
                case round => as_aux_lemma =>
                  obtain ⟨k, l, hgk, rfl, rfl, hk, hBy, hO, HL, HTK⟩ := hrel
                  have HGK2 := Lib.hid hgk
                  clear hgk hown5 hb5
                  have HBY : Hid (Below W4.heap.size W4 wr) := HBW.out.trans (hBy.mono HSZ.out)
                  by_cases hlt : k < n
                  · have gr := HGR.out
                    obtain rfl := gr.ad (by omega)
                    have hcr := gr.el k hlt
                    obtain ⟨⟨ae, ce, be, oe, hve, ge⟩, -⟩ := HRR.out k hlt
                    rw [hve] at hcr
                    have HCR := Lib.hid hcr
                    have c3 := cellB HBY.out hcr
                    have co := hO.atY HL.out.symm k (by rw [HL.out]; exact hlt)
                    have fo := hO.fz HL.out.symm k
                    have HS0 : Hid ((all.getD k []).length = 0 → stK all m (k + 1) = ((stK all m k).1 ++ [-1], (stK all m k).2)) := fun h => by rw [stK, if_pos h]
                    have HS1 : Hid ((all.getD k []).length ≠ 0 → stK all m (k + 1) = ((stK all m k).1 ++ [(all.getD k []).getD ((stK all m k).2 % (all.getD k []).length) 0], (stK all m k).2 / (all.getD k []).length)) := fun h => by rw [stK, if_neg h]
                    have hrs : (stK all m k).2 ≤ 2187 := by have := stK_le all m k; omega
                    have HO6 := Lib.hid (hO.set HL.out.symm k (-1))
                    have HB6 : Hid (Below sb w0 (wr.setCell ⟨sb, k, none⟩ (.int .i64 (-1)))) := hBy.setCell (p := ⟨sb, k, none⟩) (Nat.le_refl sb) _
                    have HBY6 : Hid (Below W4.heap.size W4 (wr.setCell ⟨sb, k, none⟩ (.int .i64 (-1)))) := HBW.out.trans (HB6.out.mono HSZ.out)
                    have HL6 : Hid ((l.set k (-1)).length = n) := by show _ = _; rw [List.length_set]; exact HL.out
                    have HT6 : Hid (∀ c : Int, (l.set k c).take (k + 1) = (stK all m k).1 ++ [c]) := fun c => by rw [take_set_nx _ _ _ (by rw [HL.out]; exact hlt), HTK.out]
                    have HL7 : Hid (∀ c : Int, (l.set k c).length = n) := fun c => by rw [List.length_set]; exact HL.out
                    have hn3L : (all.getD k []).length ≤ 3 := by rw [HAT.out k hlt]; exact chR_len _ _ _ _ _ (H3.out k)
                    clear hcr hve hO hBy gr
                    generalize hrow : all.getD k [] = row at *
                    have hc0 := ge.nb
                    generalize hL : row.length = L at *
                    generalize hRS : (stK all m k).2 = rs at *
                    have HRS := Lib.hid hRS
                    have HROW := Lib.hid hrow
                    have HLL := Lib.hid hL
                    have c36 := cellB HBY6.out HCR.out
                    have HGE := Lib.hid ge
                    clear hrow hL hRS ge
                    by_cases hL0 : L = 0
                    · subst hL0
                      have HS2 := Lib.hid (HS0.out rfl)
                      clear HS0 HS1
                      go_wp2
                      go_roundg (n - (k + 1))
                      case measure => have := HGK2.out; omega
                      case rel => exact ⟨k + 1, _, rfl, by rw [HS2.out], by go_num, by omega, HB6.out, HO6.out, HL6, by show _ = _; rw [HS2.out]; exact HT6.out _⟩
                    · have hLp : 0 < (L : Int) := by omega
                      have hdc : decide ((0 : Int) < (L : Int)) = true := decide_eq_true hLp
                      have HS2 := Lib.hid (HS1.out hL0)
                      have hd : rs % L < L := Nat.mod_lt _ (by omega)
                      have hnz : ((L : Int) == 0) = false := beq_eq_false_iff_ne.2 (by omega)
                      have hmod : ((rs : Nat) : Int).tmod (L : Int) = ((rs % L : Nat) : Int) := (Int.ofNat_tmod rs L).symm
                      have hdiv : ((rs : Nat) : Int).tdiv (L : Int) = ((rs / L : Nat) : Int) := (Int.ofNat_tdiv rs L).symm
                      have hdl : rs / L ≤ rs := Nat.div_le_self _ _
                      generalize rs % L = d at *
                      generalize rs / L = e at *
                      have hwm : IntKind.i64.wrap (d : Int) = (d : Int) := IntWalk.i64_in _ ⟨by omega, by omega⟩
                      have hwd : IntKind.i64.wrap (e : Int) = (e : Int) := IntWalk.i64_in _ ⟨by omega, by omega⟩
                      have ge := HGE.out
                      obtain rfl := ge.ad (by omega)
                      have hce := ge.el d hd
                      unfold ivF at hce
                      have HCE := Lib.hid hce
                      clear HS0 HS1 hce ge
                      generalize hcc : row.getD d 0 = c at *
                      clear hcc
                      go_wp2_with fail
                      go_upto_region 32 with (fail)
                      clear hdc hLp
                      rw [show decide (0 < L) = true from decide_eq_true (by omega)]
                      have fo6 := HO6.out.fz HL6.out.symm k
                      have co6 := HO6.out.atY HL6.out.symm k (by rw [HL6.out]; exact hlt)
                      clear c3 co fo
                      generalize (wr.setCell ⟨sb, k, none⟩ (.int .i64 (-1))) = w6 at *
                      have HCL : Hid (∀ W, Below w6.drew.heap.size w6.drew W → W.cell? ⟨br, fr + k, none⟩ = some (.slice (some ⟨be, oe, none⟩) L ce) ∧ W.cell? ⟨be, oe + d, none⟩ = some (.int .i64 c)) := fun W h => by
                        have hb := HBY6.out.trans (((Below.drew (Below.refl _ _)).trans h).mono HBY6.out.size)
                        exact ⟨cellB hb HCR.out, cellB hb HCE.out⟩
                      have HOS : Hid (∀ W, Below w6.drew.heap.size w6.drew W → OI W sb (.slice (some ⟨sb, 0, none⟩) n n) (l.set k (-1))) := fun W h => HO6.out.below ((Below.drew (Below.refl _ _)).trans h)
                      have HSB6 : Hid (sb ≤ w6.heap.size) := Nat.le_trans (Nat.le_of_eq HSB.out) HB6.out.size
                      have HBS : Hid (∀ W, Below w6.drew.heap.size w6.drew W → Below sb w0 W) := fun W h => HB6.out.trans (((Below.drew (Below.refl _ _)).trans h).mono HSB6.out)
                      refine region_last hmx (R32 sb n k br fr cr be oe L ce rs d c) (fun vs => { tmps := (_ :: _ :: _ :: _ :: _ :: _ :: _ :: _ :: _ :: _ :: _ :: _ :: _ :: _ :: _ :: _ :: _ :: _ :: _ :: _ :: _ :: _ :: _ :: _ :: _ :: _ :: _ :: _ :: _ :: _ :: _ :: _ :: _ :: _ :: _ :: _ :: _ :: _ :: _ :: _ :: _ :: _ :: _ :: _ :: _ :: _ :: _ :: _ :: _ :: _ :: _ :: _ :: _ :: _ :: _ :: _ :: _ :: _ :: _ :: _ :: _ :: _ :: _ :: _ :: _ :: _ :: _ :: _ :: _ :: _ :: _ :: _ :: _ :: _ :: _ :: _ :: _ :: _ :: _ :: _ :: _ :: _ :: _ :: _ :: _ :: _ :: _ :: _ :: _ :: _ :: _ :: _ :: _ :: _ :: _ :: _ :: _ :: _ :: _ :: _ :: _ :: _ :: _ :: _ :: _ :: _ :: _ :: _ :: _ :: _ :: _ :: _ :: _ :: _ :: _ :: _ :: _ :: _ :: _ :: _ :: _ :: _ :: _ :: _ :: _ :: _ :: _ :: _ :: _ :: _ :: _ :: _ :: _ :: _ :: _ :: _ :: _ :: _ :: _ :: _ :: _ :: _ :: vs 0 :: vs 1 :: vs 2 :: vs 3 :: vs 4 :: vs 5 :: vs 6 :: vs 7 :: vs 8 :: vs 9 :: vs 10 :: vs 11 :: vs 12 :: vs 13 :: vs 14 :: vs 15 :: _ :: _ :: _ :: _ :: _ :: _ :: _ :: _ :: _ :: _ :: _ :: _ :: _ :: _ :: []).toArray, defers := [] }) (fun n => [u142, u143, u144, u145, u146, u147, u148, u149, u150, u151, u152, u153, u154, u155, u156, u157].getD n undef) 16 rfl (by kernel_rfl) (by kernel_rfl) (R32.mono sb n k br fr cr be oe L ce rs d c) ?step32 ?last32
                      case step32 =>
                        intro ix o hlo ho
                        match ix, hlo, ho with
                          | 0, hi, ho =>
                            obtain rfl := Option.some.inj ho
                            intro vs W K hB hD hK
                            have HK := Lib.hid hK
                            clear hK hD ho hi
                            dsimp only
                            go_simp
                            have h := HK.out _ _ (Below.refl _ _) rfl
                            simp only [upd, Nat.reduceEqDiff, reduceIte] at h
                            exact h
                          | 1, hi, ho =>
                            obtain rfl := Option.some.inj ho
                            intro vs W K hB hD hK
                            have HK := Lib.hid hK
                            clear hK hD ho hi
                            dsimp only
                            go_simp
                            have h := HK.out _ _ (Below.refl _ _) rfl
                            simp only [upd, Nat.reduceEqDiff, reduceIte] at h
                            exact h
                          | 2, hi, ho =>
                            obtain rfl := Option.some.inj ho
                            intro vs W K hB hD hK
                            have HK := Lib.hid hK
                            clear hK hD ho hi
                            dsimp only
                            go_simp
                            have h := HK.out _ _ (Below.refl _ _) rfl
                            simp only [upd, Nat.reduceEqDiff, reduceIte] at h
                            exact h
                          | 3, hi, ho =>
                            obtain rfl := Option.some.inj ho
                            intro vs W K hB hD hK
                            have HK := Lib.hid hK
                            clear hK hD ho hi
                            dsimp only
                            go_simp
                            have h := HK.out _ _ (Below.refl _ _) rfl
                            simp only [upd, Nat.reduceEqDiff, reduceIte] at h
                            exact h
                          | 4, hi, ho =>
                            obtain rfl := Option.some.inj ho
                            intro vs W K hB hD hK
                            have HK := Lib.hid hK
                            have e2 : vs 2 = .slice (some ⟨br, fr, none⟩) n cr := dep_of hD 2 (by rfl)
                            have e3 : vs 3 = .int .i64 (k : Int) := dep_of hD 3 (by rfl)
                            clear hK hD ho hi
                            dsimp only
                            go_simp
                            have h := HK.out _ _ (Below.refl _ _) rfl
                            simp only [upd, Nat.reduceEqDiff, reduceIte, e2, e3] at h
                            exact h
                          | 5, hi, ho =>
                            obtain rfl := Option.some.inj ho
                            intro vs W K hB hD hK
                            have HK := Lib.hid hK
                            have e4 : vs 4 = .pointer (some ⟨br, fr + k, none⟩) := dep_of hD 4 (by rfl)
                            have c1 := (HCL.out W hB).1
                            clear hK hD ho hi
                            dsimp only
                            go_simp
                            have h := HK.out _ _ (Below.refl _ _) rfl
                            simp only [upd, Nat.reduceEqDiff, reduceIte, e4] at h
                            exact h
                          | 6, hi, ho =>
                            obtain rfl := Option.some.inj ho
                            intro vs W K hB hD hK
                            have HK := Lib.hid hK
                            clear hK hD ho hi
                            dsimp only
                            go_simp
                            have h := HK.out _ _ (Below.refl _ _) rfl
                            simp only [upd, Nat.reduceEqDiff, reduceIte] at h
                            exact h
                          | 7, hi, ho =>
                            obtain rfl := Option.some.inj ho
                            intro vs W K hB hD hK
                            have HK := Lib.hid hK
                            clear hK hD ho hi
                            dsimp only
                            go_simp
                            have h := HK.out _ _ (Below.refl _ _) rfl
                            simp only [upd, Nat.reduceEqDiff, reduceIte] at h
                            exact h
                          | 8, hi, ho =>
                            obtain rfl := Option.some.inj ho
                            intro vs W K hB hD hK
                            have HK := Lib.hid hK
                            clear hK hD ho hi
                            dsimp only
                            go_simp
                            have h := HK.out _ _ (Below.refl _ _) rfl
                            simp only [upd, Nat.reduceEqDiff, reduceIte] at h
                            exact h
                          | 9, hi, ho =>
                            obtain rfl := Option.some.inj ho
                            intro vs W K hB hD hK
                            have HK := Lib.hid hK
                            have e7 : vs 7 = .slice (some ⟨br, fr, none⟩) n cr := dep_of hD 7 (by rfl)
                            have e8 : vs 8 = .int .i64 (k : Int) := dep_of hD 8 (by rfl)
                            clear hK hD ho hi
                            dsimp only
                            go_simp
                            have h := HK.out _ _ (Below.refl _ _) rfl
                            simp only [upd, Nat.reduceEqDiff, reduceIte, e7, e8] at h
                            exact h
                          | 10, hi, ho =>
                            obtain rfl := Option.some.inj ho
                            intro vs W K hB hD hK
                            have HK := Lib.hid hK
                            have e9 : vs 9 = .pointer (some ⟨br, fr + k, none⟩) := dep_of hD 9 (by rfl)
                            have c1 := (HCL.out W hB).1
                            clear hK hD ho hi
                            dsimp only
                            go_simp
                            have h := HK.out _ _ (Below.refl _ _) rfl
                            simp only [upd, Nat.reduceEqDiff, reduceIte, e9] at h
                            exact h
                          | 11, hi, ho =>
                            obtain rfl := Option.some.inj ho
                            intro vs W K hB hD hK
                            have HK := Lib.hid hK
                            have e10 : vs 10 = .slice (some ⟨be, oe, none⟩) L ce := dep_of hD 10 (by rfl)
                            clear hK hD ho hi
                            dsimp only
                            go_simp
                            have h := HK.out _ _ (Below.refl _ _) rfl
                            simp only [upd, Nat.reduceEqDiff, reduceIte, e10] at h
                            exact h
                          | 12, hi, ho =>
                            obtain rfl := Option.some.inj ho
                            intro vs W K hB hD hK
                            have HK := Lib.hid hK
                            have e6 : vs 6 = .int .i64 (rs : Int) := dep_of hD 6 (by rfl)
                            have e11 : vs 11 = .int .i64 (L : Int) := dep_of hD 11 (by rfl)
                            clear hK hD ho hi
                            dsimp only
                            go_simp
                            have h := HK.out _ _ (Below.refl _ _) rfl
                            simp only [upd, Nat.reduceEqDiff, reduceIte, e6, e11] at h
                            exact h
                          | 13, hi, ho =>
                            obtain rfl := Option.some.inj ho
                            intro vs W K hB hD hK
                            have HK := Lib.hid hK
                            have e5 : vs 5 = .slice (some ⟨be, oe, none⟩) L ce := dep_of hD 5 (by rfl)
                            have e12 : vs 12 = .int .i64 (d : Int) := dep_of hD 12 (by rfl)
                            clear hK hD ho hi
                            dsimp only
                            go_simp
                            have h := HK.out _ _ (Below.refl _ _) rfl
                            simp only [upd, Nat.reduceEqDiff, reduceIte, e5, e12] at h
                            exact h
                          | 14, hi, ho =>
                            obtain rfl := Option.some.inj ho
                            intro vs W K hB hD hK
                            have HK := Lib.hid hK
                            have e13 : vs 13 = .pointer (some ⟨be, oe + d, none⟩) := dep_of hD 13 (by rfl)
                            have c1 := (HCL.out W hB).2
                            clear hK hD ho hi
                            dsimp only
                            go_simp
                            have h := HK.out _ _ (Below.refl _ _) rfl
                            simp only [upd, Nat.reduceEqDiff, reduceIte, e13] at h
                            exact h
                          | 15, hi, ho =>
                            obtain rfl := Option.some.inj ho
                            intro vs W K hB hD hK
                            have HK := Lib.hid hK
                            have e0 : vs 0 = .slice (some ⟨sb, 0, none⟩) n n := dep_of hD 0 (by rfl)
                            have e1 : vs 1 = .int .i64 (k : Int) := dep_of hD 1 (by rfl)
                            clear hK hD ho hi
                            dsimp only
                            go_simp
                            have h := HK.out _ _ (Below.refl _ _) rfl
                            simp only [upd, Nat.reduceEqDiff, reduceIte, e0, e1] at h
                            exact h
                          | n' + 16, hi, ho => omega
                      case last32 =>
                        intro o ho
                        obtain rfl := Option.some.inj ho
                        intro vs W K hB hall' hK
                        have HK := Lib.hid hK
                        have e14 : vs 14 = .int .i64 c := hall' 14 (by omega)
                        have e15 : vs 15 = .pointer (some ⟨sb, k, none⟩) := hall' 15 (by omega)
                        have c1 := (HOS.out W hB).atY HL6.out.symm k (by rw [HL6.out]; exact hlt)
                        have f1 := (HOS.out W hB).fz HL6.out.symm k
                        have ho7 := (HOS.out W hB).set HL6.out.symm k c
                        rw [List.set_set] at ho7
                        have HO7 := Lib.hid ho7
                        have HB7 : Hid (Below sb w0 (W.setCell ⟨sb, k, none⟩ (.int .i64 c))) := (HBS.out W hB).setCell (p := ⟨sb, k, none⟩) (Nat.le_refl sb) _
                        clear hK hall' ho ho7
                        dsimp only
                        go_simp
                        refine HK.out _ _ ?_
                        clear c1 f1 HK HCL HOS HBS
                        generalize (W.setCell ⟨sb, k, none⟩ (.int .i64 c)) = w7 at *
                        clear e14 e15
                        generalize vs 0 = q0x
                        generalize vs 1 = q1x
                        generalize vs 2 = q2x
                        generalize vs 3 = q3x
                        generalize vs 4 = q4x
                        generalize vs 5 = q5x
                        generalize vs 6 = q6x
                        generalize vs 7 = q7x
                        generalize vs 8 = q8x
                        generalize vs 9 = q9x
                        generalize vs 10 = q10x
                        generalize vs 11 = q11x
                        generalize vs 12 = q12x
                        generalize vs 13 = q13x
                        generalize vs 14 = q14x
                        generalize vs 15 = q15x
                        clear vs
                        have c37 := cellB (HBW.out.trans (HB7.out.mono HSZ.out)) HCR.out
                        clear c36 fo6 co6 HO6 HB6 HBY6
                        go_wp2
                        go_roundg (n - (k + 1))
                        case measure => have := HGK2.out; omega
                        case rel => exact ⟨k + 1, _, rfl, by rw [HS2.out], by go_num, by omega, HB7.out, HO7.out, HL7.out _, by show _ = _; rw [HS2.out]; exact HT6.out _⟩
                  · obtain rfl : n = k := by omega
                    have hls : l = (stK all m n).1 := by
                      have h1 := HTK.out
                      rwa [List.take_of_length_le (by rw [HL.out]; exact Nat.le_refl _)] at h1
                    have HSL2 : Hid ((stK all m n).1.length = n) := stK_len _ _ _
                    have HI9 : Hid (IsInts wr (.slice (some ⟨sb, 0, none⟩) n n) (stK all m n).1) := by
                      have h1 := hO.is (by rw [HL.out]; unfold maxN; omega) (by
                        rw [hls]
                        refine stK_I64 all (fun i x hx => ?_) m n
                        rcases Nat.lt_or_ge i n with h | h
                        · exact (HRR.out i h).2 x hx
                        · have h2 := HLA.out
                          simp [List.getD, List.getElem?_eq_none (by omega : all.length ≤ i)] at hx)
                      rw [hls] at h1
                      exact h1
                    obtain ⟨d0, d1, d2⟩ := HBX4.out wr HBY.out
                    clear hO hls HTK HL
                    have HG9 : Hid (IsGame wr (.agg #[.slice ao0 n cap0, .slice ao1 g.prio.length cap1, .slice ao2 n cap2]) g) := by
                      have h1 := HG3.out wr (HW4.out.trans (HBY.out.mono HW4.out.size))
                      have h2 := HNE.out
                      have h3 := HON.out.2.2.2
                      rw [h3, ← h2] at h1
                      exact h1
                    have HB9 : Hid (IsBools wr (.slice az n cz) s) := HB5.out.below HBY.out
                    go_wp2_with fail
                    refine (Beaten_c wr _ _ _ g p s (stK all m n).1 n HG9.out HB9.out HI9.out HOl.out HSL2.out HNE.out.symm (by rw [HNE.out]; exact HON.out.2.2.1) (by rw [HNE.out]; exact HON.out.2.2.2) (by omega) HRG.out).mono ?_
                    rintro e w9 ⟨b, rfl, hbd, hb9⟩
                    have HB10 : Hid (Below W4.heap.size W4 w9) := HBY.out.trans (hb9.mono HBY.out.size)
                    have HF10 : Hid (Below w.heap.size w w9) := HF3.out.trans ((HW4.out.trans (HB10.out.mono HW4.out.size)).mono HF3.out.size)
                    clear hb9 d0 d1 d2
                    cases b with
                    | false =>
                      clear hbd
                      go_wp2
                      go_ret
                      exact ⟨rfl, HF10.out⟩
                    | true =>
                      have hnm : m ≠ ms := fun e => HBAD.out (e ▸ hbd rfl)
                      have hlm : m + 1 ≤ ms := by omega
                      clear hbd hnm
                      go_wp2
                      go_roundg (T - (m + 1))
                      case measure => have := HGM.out; omega
                      case rel => exact ⟨m + 1, rfl, by go_num, hlm, HB10.out⟩

end Go.Proofs.Ytjhafakkadnfmaa
