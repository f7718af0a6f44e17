/- What within of the chapter returns. -/
import Derived.Test.YtkbiopjinegckaaSt24
namespace Go.Proofs.Ytkbiopjinegckaa
open Go.RowKit

def withF (set : List Bool) (s : List Int) (i : Nat) : Int := if set.getD i false then s.getD i 0 else -1
def withK (set : List Bool) (s : List Int) (k : Nat) : List Int := (List.range k).map (withF set s)
def withL (set : List Bool) (s : List Int) : List Int := withK set s s.length
theorem withK_succ (set : List Bool) (s : List Int) (k : Nat) : withK set s (k + 1) = withK set s k ++ [withF set s k] := by
  unfold withK
  rw [List.range_succ, List.map_append]; rfl
theorem withK_len (set : List Bool) (s : List Int) (k : Nat) : (withK set s k).length = k := by unfold withK; simp
theorem withL_get (set : List Bool) (s : List Int) (i : Nat) (h : i < s.length) : (withL set s).getD i 0 = withF set s i := by
  unfold withL withK
  simp [List.getD, h]

set_option maxRecDepth 100000 in
set_option maxHeartbeats 4000000 in
theorem lwithin_c (w : World) (vs vt : Value) (set : List Bool) (s : List Int) (hs : IsBools w vs set) (ht : IsInts w vt s) (hn : s.length ≤ 3000) :
    Calls Try.prog 26 #[vs, vt] w (NewN (withL set s) w) := by
  obtain ⟨aS, cS, rfl⟩ := hs.shape
  obtain ⟨aT, cT, rfl⟩ := ht.shape
  obtain ⟨bS, oS, hdS, mS, ddS⟩ := hs.data
  obtain ⟨bT, oT, hdT, mT, ddT⟩ := ht.data
  have HI : Hid (∀ x ∈ s, I64 x) := ht.2
  have HQ : Hid (withL set s = withK set s s.length) := (rfl : withL set s = withK set s s.length)
  have HDS : Hid (∀ W, Below w.heap.size w W → ∀ j, j < set.length → W.cell? ⟨bS, oS + j, none⟩ = some (.bool (set.getD j false))) := fun W h j hj => cellB h (ddS j hj)
  have HDT : Hid (∀ W, Below w.heap.size w W → ∀ j, j < s.length → W.cell? ⟨bT, oT + j, none⟩ = some (.int .i64 (s.getD j 0))) := fun W h j hj => cellB h (ddT j hj)
  clear hs ht ddS ddT
  generalize hl1 : set.length = l1 at *
  generalize hl2 : s.length = l2 at *
  have HL1 := Lib.hid hl1
  have HL2 := Lib.hid hl2
  clear hl1 hl2
  go_enter Try.func26, Try.ntmps26
  go_wp2_with fail
  have hO := OI_empty0 w
  have hb0 : Below w.heap.size w (w.alloc (.cells #[] 3)) := bel_box _
  generalize w.alloc (.cells #[] 3) = w1 at *
  go_loopg [5, 6] l2 (fun gh v i wr => ∃ k : Nat, gh = l2 - k ∧ i = .int .i64 k ∧ k ≤ l2 ∧ Hid (OI wr w.heap.size v (withK set s k)) ∧ Below w.heap.size w wr)
  case atStart => exact ⟨0, rfl, rfl, by omega, hO, hb0⟩
  case round =>
    obtain ⟨k, hgk, rfl, hk, HO, hB⟩ := hrel
    have HG := Lib.hid hgk
    clear hgk hO hb0
    have HB := Lib.hid hB
    have hBs := hB.size
    clear hB
    by_cases hlt : k < l2
    · obtain rfl := hdT (by omega)
      have yT := HDT.out _ HB.out k hlt
      have hN : decide ((k : Int) < l2) = true := decide_eq_true (by omega)
      have HAPP : Hid (∀ v : Int, withF set s k = v → withK set s (k + 1) = withK set s k ++ [v]) := fun v e => by rw [withK_succ, e]
      have hKL := withK_len set s k
      obtain ⟨X, hX⟩ : ∃ X, withK set s k = X := ⟨_, rfl⟩
      rw [hX] at HO HAPP hKL
      have hXl : X.length ≤ 3000 := by omega
      clear hKL
      cases hin : decide (k < l1)
      case false =>
        have hin' : decide ((k : Int) < l1) = false := by
          have := of_decide_eq_false hin
          exact decide_eq_false (by omega)
        have hw : Hid (withF set s k = -1) := (by
          have := of_decide_eq_false hin
          unfold withF
          rw [List.getD_eq_getElem?_getD, List.getElem?_eq_none (by rw [HL1.out]; omega)]; rfl : withF set s k = -1)
        clear hX
        go_wp2_with (at_builtin; refine app_int rfl _ _ (-1) rfl w.heap.size _ _ HO.out rfl _ (by simp) rfl (by omega) hBs ?_; intro v' w' hown' hg hmv; obtain ⟨ao', cap', hv'⟩ := hown'.slice; rw [List.length_append, List.length_singleton] at hv'; subst hv'; have HO2 := Lib.hid hown'; have HB2 := Lib.hid (HB.out.grown hg hBs (fun g h => HO.out.ge g h)); clear hown' hg hmv)
        go_roundg (l2 - (k + 1))
        case measure => have := HG.out; omega
        case rel => exact ⟨k + 1, rfl, by go_num, by omega, (by show OI _ _ _ _; rw [HAPP.out _ hw.out]; exact HO2.out), HB2.out⟩
      case true =>
        have hlt1 := of_decide_eq_true hin
        have hin' : decide ((k : Int) < l1) = true := decide_eq_true (by omega)
        obtain rfl := hdS (by omega)
        have yS := HDS.out _ HB.out k hlt1
        cases hq : set.getD k false
        · have hw : Hid (withF set s k = -1) := (by unfold withF; rw [hq]; rfl : withF set s k = -1)
          rw [hq] at yS
          clear hq hX
          go_wp2_with (at_builtin; refine app_int rfl _ _ (-1) rfl w.heap.size _ _ HO.out rfl _ (by simp) rfl (by omega) hBs ?_; intro v' w' hown' hg hmv; obtain ⟨ao', cap', hv'⟩ := hown'.slice; rw [List.length_append, List.length_singleton] at hv'; subst hv'; have HO2 := Lib.hid hown'; have HB2 := Lib.hid (HB.out.grown hg hBs (fun g h => HO.out.ge g h)); clear hown' hg hmv)
          go_roundg (l2 - (k + 1))
          case measure => have := HG.out; omega
          case rel => exact ⟨k + 1, rfl, by go_num, by omega, (by show OI _ _ _ _; rw [HAPP.out _ hw.out]; exact HO2.out), HB2.out⟩
        · obtain ⟨sv, hsv⟩ : ∃ v, s.getD k 0 = v := ⟨_, rfl⟩
          have hw : Hid (withF set s k = sv) := (by unfold withF; rw [hq, if_pos rfl]; exact hsv : withF set s k = sv)
          rw [hq] at yS
          rw [hsv] at yT
          clear hq hX hsv
          go_wp2_with (at_builtin; refine app_int rfl _ _ sv rfl w.heap.size _ _ HO.out rfl _ (by simp) rfl (by omega) hBs ?_; intro v' w' hown' hg hmv; obtain ⟨ao', cap', hv'⟩ := hown'.slice; rw [List.length_append, List.length_singleton] at hv'; subst hv'; have HO2 := Lib.hid hown'; have HB2 := Lib.hid (HB.out.grown hg hBs (fun g h => HO.out.ge g h)); clear hown' hg hmv)
          go_roundg (l2 - (k + 1))
          case measure => have := HG.out; omega
          case rel => exact ⟨k + 1, rfl, by go_num, by omega, (by show OI _ _ _ _; rw [HAPP.out _ hw.out]; exact HO2.out), HB2.out⟩
    · obtain rfl : k = l2 := by omega
      go_wp2_with fail
      go_ret
      refine ⟨_, rfl, ?_, HB.out⟩
      rw [HQ.out]
      refine HO.out.is (by rw [withK_len]; simp only [maxN]; omega) fun x hx => ?_
      simp only [withK, List.mem_map, List.mem_range] at hx
      obtain ⟨i, hi, rfl⟩ := hx
      unfold withF
      split
      · rw [getD_lt _ _ _ (by rw [HL2.out]; exact hi)]; exact HI.out _ (List.getElem_mem _)
      · unfold I64; omega
end Go.Proofs.Ytkbiopjinegckaa
