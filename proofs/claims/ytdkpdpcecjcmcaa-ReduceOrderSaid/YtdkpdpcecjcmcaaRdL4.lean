/- The law ReduceOrder: its walk. -/
import Derived.Test.YtdkpdpcecjcmcaaRdH2
import Derived.Test.YtdkpdpcecjcmcaaRdH3
namespace Go.Proofs.Ytdkpdpcecjcmcaa
open Go.RowKit

/-- A row of the trimmed automaton, in terms of the search. -/
theorem ord_row {a : Au} {k : Nat} {l : List Int} (h : TrS a k l) (hk : k < l.length) : (trimA a).next.getD k [] = idxR (ordA a) (rowN a (l.getD k 0)) := by
  obtain ⟨e, he⟩ := h.pre
  rw [trimA_nx (by rw [he, List.length_append]; omega), he, getD_pre hk]
theorem take_at {l : List Int} {x : Nat} (h : x < l.length) : l.take (x + 1) = l.take x ++ [l.getD x 0] := by rw [List.take_succ_eq_append_getElem h, getD_lt _ _ _ h]
/-- One more letter of a row: its state was met, or is the next one. -/
theorem ord_step {a : Au} {K k : Nat} {l : List Int} (hA : AuV a K) (h : TrS a k l) (hk : k < l.length) {x : Nat} (hx : x < (rowN a (l.getD k 0)).length) :
    (((rowN a (l.getD k 0)).getD x 0 ∈ addR l ((rowN a (l.getD k 0)).take x) ∧ (ordA a).idxOf ((rowN a (l.getD k 0)).getD x 0) < (addR l ((rowN a (l.getD k 0)).take x)).length ∧ addI (addR l ((rowN a (l.getD k 0)).take x)) ((rowN a (l.getD k 0)).getD x 0) = addR l ((rowN a (l.getD k 0)).take x)) ∨
      ((rowN a (l.getD k 0)).getD x 0 ∉ addR l ((rowN a (l.getD k 0)).take x) ∧ (ordA a).idxOf ((rowN a (l.getD k 0)).getD x 0) = (addR l ((rowN a (l.getD k 0)).take x)).length ∧ addI (addR l ((rowN a (l.getD k 0)).take x)) ((rowN a (l.getD k 0)).getD x 0) = addR l ((rowN a (l.getD k 0)).take x) ++ [(rowN a (l.getD k 0)).getD x 0])) ∧
    addR l ((rowN a (l.getD k 0)).take (x + 1)) = addI (addR l ((rowN a (l.getD k 0)).take x)) ((rowN a (l.getD k 0)).getD x 0) := by
  generalize hrow : rowN a (l.getD k 0) = row at *
  have e1 : addR l (row.take (x + 1)) = addI (addR l (row.take x)) (row.getD x 0) := by rw [take_at hx, addR_snoc]
  refine ⟨lock_one (TrS.ord hA).nd ?_, e1⟩
  obtain ⟨e, he⟩ := (h.next hA hk).pre
  rw [hrow] at he
  have e2 : addR l row = addR (addR l (row.take (x + 1))) (row.drop (x + 1)) := by
    conv => lhs; rw [← List.take_append_drop (x + 1) row]
    unfold addR
    rw [List.foldl_append]
  obtain ⟨e3, he3⟩ := addR_pre (row.drop (x + 1)) (addR l (row.take (x + 1)))
  exact ⟨e3 ++ e, by rw [he, e2, he3, e1, List.append_assoc]⟩
theorem addR_len {a : Au} {K k : Nat} {l : List Int} (hA : AuV a K) (h : TrS a k l) (hk : k < l.length) {x : Nat} : (addR l ((rowN a (l.getD k 0)).take x)).length ≤ a.next.length := by
  have h1 := (h.next hA hk).len
  generalize rowN a (l.getD k 0) = row at *
  have e2 : addR l row = addR (addR l (row.take x)) (row.drop x) := by
    conv => lhs; rw [← List.take_append_drop x row]
    unfold addR
    rw [List.foldl_append]
  obtain ⟨e3, he3⟩ := addR_pre (row.drop x) (addR l (row.take x))
  rw [e2, he3, List.length_append] at h1
  omega

set_option maxRecDepth 100000 in
set_option maxHeartbeats 8000000 in
theorem Order_walk (w : World) (v : Value) (a : Au) (ha : IsAuto w v a) :
    Calls Try.prog 5 #[v] w (Calm (.bool true) w) := by
  obtain ⟨p2, q2, p3, q3, rfl⟩ := ha.shape
  go_enter Try.func5, Try.ntmps5
  go_upto_region 1 with (fail)
  obtain ⟨hx, hb, hB⟩ := box_new (w0 := w) (Below.refl _ _) (Nat.le_refl _) #[.int .i64 a.letters, .int .i64 a.start, .slice p2 a.next.length q2, .slice p3 a.prio.length q3] 24
  replace ha := ha.below hb
  generalize w.alloc (.cells #[.int .i64 a.letters, .int .i64 a.start, .slice p2 a.next.length q2, .slice p3 a.prio.length q3] 24) = w1 at *
  have HE : Hid (∀ W, Below w1.heap.size w1 W → Calm (.bool true) w (.returned (.bool true)) W) := fun W h => ⟨rfl, hB.trans (h.mono hB.size)⟩
  clear hb hB
  generalize w.heap.size = zhx at *
  go_wp2_with fail
  refine (head_c _).mono ?_
  rintro e w2 ⟨rfl, hb⟩
  replace hx := (hb.block _ (Array.getElem?_eq_some_iff.1 hx).1).trans hx
  replace ha := ha.below hb
  have k0 := cell_of_row _ _ 0 _ _ _ hx
  have k1 := cell_of_row _ _ 1 _ _ _ hx
  have k2 := cell_of_row _ _ 2 _ _ _ hx
  have k3 := cell_of_row _ _ 3 _ _ _ hx
  go_wp2_with fail
  refine (right_c _ _ a ha).mono ?_
  rintro e w3 ⟨rfl, hb3⟩
  replace hx := (hb3.block _ (Array.getElem?_eq_some_iff.1 hx).1).trans hx
  replace ha := ha.below hb3
  replace hb := hb.trans (hb3.mono hb.size)
  clear hb3 k0 k1 k2 k3
  cases hR : rightA a
  · go_wp2_with fail
    go_ret
    exact HE.out _ hb
  have HV : Hid (AuV a a.letters.toNat ∧ a.next.length ≤ 14) := right_v hR
  clear hR
  have k0 := cell_of_row _ _ 0 _ _ _ hx
  have k1 := cell_of_row _ _ 1 _ _ _ hx
  have k2 := cell_of_row _ _ 2 _ _ _ hx
  have k3 := cell_of_row _ _ 3 _ _ _ hx
  go_wp2_with fail
  refine (Trim_c _ _ a ha).mono ?_
  rintro e w4 ⟨vht, rfl, hK, hb3⟩
  have ht := hK _ (Only.refl _ _)
  replace hx := (hb3.block _ (Array.getElem?_eq_some_iff.1 hx).1).trans hx
  replace ha := ha.below hb3
  replace hb := hb.trans (hb3.mono hb.size)
  clear hb3 hK k0 k1 k2 k3
  obtain ⟨t, htt⟩ : ∃ t, trimF a = t := ⟨_, rfl⟩
  rw [htt] at ht
  have HTT : Hid (t = trimA a) := by
    show _ = _
    rw [← htt]; unfold trimF; rw [if_pos HV.out.1.valid]
  clear htt
  obtain ⟨a2, b2, a3, b3, rfl⟩ := ht.shape
  go_upto_region 5 with (fail)
  obtain ⟨xt, hb3, -⟩ := box_new hb hb.size #[.int .i64 t.letters, .int .i64 t.start, .slice a2 t.next.length b2, .slice a3 t.prio.length b3] 24
  replace hx := (hb3.block _ (Array.getElem?_eq_some_iff.1 hx).1).trans hx
  replace ha := ha.below hb3
  replace ht := ht.below hb3
  replace hb := hb.trans (hb3.mono hb.size)
  generalize w4.alloc (.cells #[.int .i64 t.letters, .int .i64 t.start, .slice a2 t.next.length b2, .slice a3 t.prio.length b3] 24) = w5 at *
  generalize w4.heap.size = zxt at *
  clear hb3
  have k2 := cell_of_row _ _ 2 _ _ _ xt
  clear hx ha xt
  obtain ⟨u2, u3, eu, -, hu2, -⟩ := ht
  obtain ⟨rfl, -⟩ : Value.slice a2 t.next.length b2 = u2 ∧ True := ⟨by simp at eu; exact eu.1, trivial⟩
  obtain ⟨V2, ⟨ax2, sx2, bb, oo, hvv, gA2⟩, rA2⟩ := hu2
  obtain ⟨rfl, -, rfl⟩ : a2 = ax2 ∧ True ∧ b2 = sx2 := by simpa using hvv
  clear eu hvv
  have HN : Hid (t.next.length = (ordA a).length) := by
    show _ = _
    rw [HTT.out, trim_len]
  have hnb := gA2.nb
  generalize hn : t.next.length = n at *
  have HNN := Lib.hid hn
  clear hn
  have HBT := Lib.hid hb
  clear hb
  go_upto_region 7 with (fail)
  go_loopg [5, 6] n (fun gh m i wr => ∃ (k : Nat) (l : List Int), gh = n - k ∧ m = .int .i64 (l.length : Int) ∧ i = .int .i64 k ∧ k ≤ n ∧ Hid (TrS a k l) ∧ w5 = wr)
  case atStart => exact ⟨0, [a.start], rfl, rfl, rfl, by omega, TrS.start HV.out.1, rfl⟩
  case round =>
    obtain ⟨k, l, hgk, rfl, rfl, hk, HS, rfl⟩ := hrel
    have HGK := Lib.hid hgk
    clear hgk
    by_cases hlt : k < n
    · as_aux_lemma =>
      have hk1 : (k : Int) < (n : Int) := by omega
      obtain rfl := gA2.ad (by omega)
      have k1 := gA2.el k hlt
      have rA' := rA2 k hlt
      have hkl : k < l.length := by
        have h1 := HS.out.nl
        by_cases e : k = l.length
        · exfalso
          have h2 : TrS a l.length l := e ▸ HS.out
          have h3 := h2.done
          have h4 := HN.out
          rw [h3] at h4
          omega
        · omega
      have HLB : Hid (l.length ≤ 14) := Nat.le_trans HS.out.len HV.out.2
      obtain ⟨row, hrow⟩ : ∃ row, rowN a (l.getD k 0) = row := ⟨_, rfl⟩
      have HR := Lib.hid hrow
      have htr : t.next.getD k [] = idxR (ordA a) row := by rw [HTT.out, ← hrow]; exact ord_row HS.out hkl
      clear hrow
      rw [htr] at rA'
      obtain ⟨⟨ax, sx, bx, ox, hvx, gx⟩, -⟩ := rA'
      have hlr : (idxR (ordA a) row).length = row.length := by unfold idxR; rw [List.length_map]
      rw [hlr] at hvx gx
      have hgx := gx.nb
      rw [hvx] at k1
      have g1 : decide ((l.length : Int) ≤ (k : Int)) = false := decide_eq_false (by omega)
      have g2 : decide (l.length ≤ k) = false := decide_eq_false (by omega)
      have HROW := Lib.hid (fun x hx => ord_step HV.out.1 HS.out hkl (x := x) (by rw [HR.out]; exact hx))
      have HNX : Hid (TrS a (k + 1) (addR l row)) := by
        have := HS.out.next HV.out.1 hkl
        rw [HR.out] at this
        exact this
      have HRL : Hid (row.length ≤ 64) := by
        have h1 := (rowN_rg HV.out.1 (HS.out.at' hkl)).1
        rw [HR.out] at h1
        have := HV.out.1.k1
        show _ ≤ _
        omega
      have HKL := Lib.hid hkl
      clear hvx hlr htr hkl
      go_upto_region 12 with (fail)
      go_loopg [5, 7] row.length (fun gh m i wr => ∃ x : Nat, gh = row.length - x ∧ m = .int .i64 ((addR l (row.take x)).length : Int) ∧ i = .int .i64 x ∧ x ≤ row.length ∧ w5 = wr)
      case atStart => exact ⟨0, rfl, rfl, rfl, by omega, rfl⟩
      case round =>
        obtain ⟨x, hgx2, rfl, rfl, hx, rfl⟩ := hrel
        have HGX := Lib.hid hgx2
        clear hgx2
        by_cases hltx : x < row.length
        · as_aux_lemma =>
          have hx1 : (x : Int) < (row.length : Int) := by omega
          obtain rfl := gx.ad (by omega)
          have e1 := gx.el x hltx
          have ey : ivF (idxR (ordA a) row) x = .int .i64 ((ordA a).idxOf (row.getD x 0) : Int) := by
            unfold ivF
            rw [idxR_at hltx]
          rw [ey] at e1
          obtain ⟨hlk, hsn⟩ := HROW.out x hltx
          rw [HR.out] at hlk hsn
          have hll : (addR l (row.take x)).length ≤ 3000 := by
            rcases hlk with ⟨-, h1, -⟩ | ⟨-, h1, -⟩
            all_goals
              have h2 := addR_len HV.out.1 HS.out HKL.out (x := x)
              rw [HR.out] at h2
              have := HV.out.2
              omega
          generalize (ordA a).idxOf (row.getD x 0) = y at *
          have HSN := Lib.hid hsn
          generalize hm : (addR l (row.take x)).length = m at *
          have HM := Lib.hid hm
          clear ey hsn hm
          rcases hlk with ⟨-, h1, h2⟩ | ⟨-, h1, h2⟩
          · have c1 : decide ((m : Int) < (y : Int)) = false := decide_eq_false (by omega)
            have c2 : decide (m < y) = false := decide_eq_false (by omega)
            have c3 : ((y : Int) == (m : Int)) = false := by simp; omega
            have c4 : (y == m) = false := by simp; omega
            have c5 : ¬ ((y : Int) = (m : Int)) := by omega
            have H2 := Lib.hid h2
            clear h1 h2
            go_wp2
            go_roundg (row.length - (x + 1))
            case measure => have := HGX.out; omega
            case rel => exact ⟨x + 1, rfl, by rw [HSN.out, H2.out, HM.out], by go_num, by omega, rfl⟩
          · subst h1
            have c1 : decide ((y : Int) < (y : Int)) = false := decide_eq_false (by omega)
            have c2 : decide (y < y) = false := decide_eq_false (by omega)
            have c3 : ((y : Int) == (y : Int)) = true := by simp
            have c4 : (y == y) = true := by simp
            have H2 := Lib.hid h2
            clear h2
            go_wp2
            go_roundg (row.length - (x + 1))
            case measure => have := HGX.out; omega
            case rel => exact ⟨x + 1, rfl, by rw [HSN.out, H2.out, List.length_append, HM.out]; go_num, by go_num, by omega, rfl⟩
        · as_aux_lemma =>
          obtain rfl : x = row.length := by omega
          have hx2 : ¬ (row.length : Int) < row.length := by omega
          rw [List.take_length]
          go_wp2
          go_roundg (n - (k + 1))
          case measure => have := HGK.out; omega
          case rel => exact ⟨k + 1, addR l row, rfl, rfl, by go_num, by omega, HNX.out, rfl⟩
    · as_aux_lemma =>
      obtain rfl : k = n := by omega
      have hll : l.length = k := by
        obtain ⟨e, he⟩ := HS.out.pre
        have h1 := HN.out
        have h2 := HS.out.nl
        have h3 : (ordA a).length = l.length + e.length := by rw [he, List.length_append]
        omega
      have h0 : 0 < k := by have := HS.out.hd.2; omega
      rw [hll]
      have c1 : ((k : Int) == (k : Int)) = true := by simp
      have c2 : decide ((0 : Int) < (k : Int)) = true := decide_eq_true (by omega)
      have c3 : decide (0 < k) = true := decide_eq_true h0
      clear hll
      go_wp2
      go_ret
      exact HE.out _ HBT.out

end Go.Proofs.Ytdkpdpcecjcmcaa
