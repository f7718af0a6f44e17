/- What the reference's Make computes. -/
import Derived.Test.YtlfackilmpnlhaaDoorSg11
namespace Go.Proofs.YtlfackilmpnlhaaDoor
open Go.RowKit

def MkPost (r : Int × Bool) (w : World) (e : Ending) (w' : World) : Prop := e = .returned (.tuple #[.int .i64 r.1, .bool r.2]) ∧ Below w.heap.size w w'

theorem mk_bounds {p v z : Int} (hp1 : 1 ≤ p) (hp2 : p ≤ 4096) (h0 : 0 ≤ v) (h1 : v < z) (hz : z ≤ 4) :
    (0 ≤ p * v ∧ p * v ≤ 16384) ∧ IntKind.i64.wrap (p * v) = p * v := by
  have h2 := Int.mul_nonneg (show 0 ≤ p by omega) h0
  have h3 := Int.mul_le_mul hp2 (show v ≤ 4 by omega) h0 (by omega)
  exact ⟨⟨h2, by omega⟩, IntWalk.i64_in _ ⟨by omega, by omega⟩⟩

set_option maxRecDepth 100000 in
set_option maxHeartbeats 4000000 in
theorem RMake_c (w : World) (vl vv : Value) (l : List Sig) (vals : List Int) (hl : IsSigs w vl l) (hvv : IsInts w vv vals) :
    Calls Tryd.prog 12 #[vl, vv] w (MkPost (mkR l vals) w) := by
  have hlx := hl
  obtain ⟨ao, cap, b, off, rfl, hl⟩ := hl
  obtain ⟨⟨av, cv, bv, ov, rfl, hvv⟩, hvr⟩ := hvv
  have hn := hl.nb
  have hnv := hvv.nb
  cases hv : validS l
  · have HR : Hid (mkR l vals = (0, false)) := by show _ = _; simp [mkR, hv]
    go_enter Tryd.func12, Tryd.ntmps12
    go_wp2_with fail
    refine (RSValid_c _ _ l hlx).mono ?_
    rintro e w1 ⟨rfl, hb⟩
    rw [hv]
    go_wp2
    go_ret2
    exact ⟨by rw [HR.out]; rfl, hb⟩
  by_cases hlen : vals.length = l.length
  case neg =>
    have HR : Hid (mkR l vals = (0, false)) := by show _ = _; simp [mkR, hlen]
    have hne : ((vals.length : Int) != l.length) = true := by simp; omega
    go_enter Tryd.func12, Tryd.ntmps12
    go_wp2_with fail
    refine (RSValid_c _ _ l hlx).mono ?_
    rintro e w1 ⟨rfl, hb⟩
    rw [hv]
    go_wp2
    go_ret2
    exact ⟨by rw [HR.out]; rfl, hb⟩
  have hne : ((vals.length : Int) != l.length) = false := by simp; omega
  have HR : Hid (mkR l vals = (match mkL l vals with | some x => (x, true) | none => (0, false))) := by
    show _ = _
    unfold mkR
    rw [hv, decide_eq_true hlen]; rfl
  obtain ⟨hz, hl1, hl6, -⟩ := valid_sizes hv
  have HZ := Lib.hid hz
  have HV := Lib.hid hv
  have HLN := Lib.hid hlen
  clear hz hv hlen
  go_enter Tryd.func12, Tryd.ntmps12
  go_wp2_with fail
  refine (RSValid_c _ _ l hlx).mono ?_
  rintro e w1 ⟨rfl, hb⟩
  rw [HV.out]
  go_wp2
  go_loopw [4, 5, 6, 7, 8] (fun r s n p i wr => ∃ (k m : Nat) (nn : Int), i = .int .i64 k ∧ r = .int .i64 0 ∧ s = .bool false ∧ n = .int .i64 nn ∧ p = .int .i64 (prodL (l.take k)) ∧ k ≤ l.length ∧ Hid (MkAt l vals k nn) ∧ wr = w1.drewN m)
    (fun _ _ _ _ i _ => l.length - (intOf i).toNat)
  case atStart => exact ⟨0, 0, 0, rfl, rfl, rfl, rfl, rfl, by omega, MkAt.start l vals, rfl⟩
  case round =>
    obtain ⟨k, m, nn, rfl, rfl, rfl, rfl, rfl, hk, HM, rfl⟩ := hrel
    by_cases hlt : k < l.length
    · have hltv : k < vals.length := by rw [HLN.out]; exact hlt
      obtain rfl := hl.ad (by omega)
      obtain rfl := hvv.ad (by omega)
      have c2 := cellB hb (hl.nz k hlt)
      have c3 := cellB hb (hvv.el k hltv)
      unfold ivF at c3
      rw [getD_lt _ _ _ hltv] at c3
      have hzk := HZ.out _ (List.getElem_mem hlt)
      simp only [sizeB, Bool.and_eq_true, decide_eq_true_eq] at hzk
      obtain ⟨hs1, hs2⟩ := hzk
      obtain ⟨hp1, hp2⟩ := prodL_bd (l.take k) (fun s hs => HZ.out s (List.mem_of_mem_take hs))
      have hp3 : prodL (l.take k) ≤ 4096 := Int.le_trans hp2 (pow4 (by rw [List.length_take]; omega))
      have HF : Hid (¬ (0 ≤ vals[k] ∧ vals[k] < l[k].size) → mkR l vals = (0, false)) := fun h => by rw [HR.out, MkAt.fails HM.out hlt hltv h]
      have HN : Hid (0 ≤ vals[k] → vals[k] < l[k].size → MkAt l vals (k + 1) (nn + prodL (l.take k) * vals[k])) := fun h0 h1 => MkAt.next HM.out hlt hltv h0 h1 hp1
      have HPT := Lib.hid (prodL_take hlt)
      have hn0 : 0 ≤ nn := HM.out.2.1
      have hn1 : nn < prodL (l.take k) := HM.out.2.2
      clear hp2
      generalize prodL (l.take k) = pp at *
      rcases (by omega : vals[k] < 0 ∨ (0 ≤ vals[k] ∧ l[k].size ≤ vals[k]) ∨ (0 ≤ vals[k] ∧ vals[k] < l[k].size)) with hc | ⟨hc, hc2⟩ | ⟨hc, hc2⟩
      · go_wp2
        go_quiet (fail)
        go_wp2
        go_ret2
        exact ⟨by rw [HF.out (by omega)]; rfl, by first | exact belD hb _ | exact belD (belD hb _) _⟩
      · have hd : decide (vals[k] < 0) = false := decide_eq_false (by omega)
        go_wp2
        go_quiet (fail)
        go_wp2
        go_ret2
        exact ⟨by rw [HF.out (by omega)]; rfl, by first | exact belD hb _ | exact belD (belD hb _) _⟩
      · have hd : decide (vals[k] < 0) = false := decide_eq_false (by omega)
        have hd2 : decide (l[k].size ≤ vals[k]) = false := decide_eq_false (by omega)
        obtain ⟨⟨hm0, hm1⟩, hmw⟩ := mk_bounds hp1 hp3 hc hc2 hs2
        have hpw := prod_wrap' hp1 hp3 hs1 hs2
        have HM2 := Lib.hid (HN.out hc hc2)
        go_wp2
        go_quiet (fail)
        go_wp2
        go_roundw
        case rel => exact ⟨k + 1, _, _, by go_num, rfl, rfl, rfl, by rw [HPT.out], by omega, HM2.out, rfl⟩
        case measure => simp [intOf]; omega
    · obtain rfl : k = l.length := by omega
      have hM := MkAt.done HM.out HLN.out
      have HM2 := Lib.hid hM
      clear hM
      go_wp2
      go_ret2
      exact ⟨by rw [HR.out, HM2.out]; rfl, belD hb _⟩

end Go.Proofs.YtlfackilmpnlhaaDoor
