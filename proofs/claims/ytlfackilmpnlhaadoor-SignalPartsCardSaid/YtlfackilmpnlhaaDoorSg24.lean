/- What the reference's half, Input, Output compute. -/
import Derived.Test.YtlfackilmpnlhaaDoorSg23
namespace Go.Proofs.YtlfackilmpnlhaaDoor
open Go.RowKit

set_option maxRecDepth 100000 in
set_option maxHeartbeats 4000000 in
theorem Rhalf_c (w : World) (vl : Value) (l : List Sig) (a : Int) (q : Bool) (ha : I64 a) (hl : IsSigs w vl l) :
    Calls Tryd.prog 46 #[vl, .int .i64 a, .bool q] w (Calm (.int .i64 (halfI l q a)) w) := by
  have H := Lib.hid (RValues_c w vl l a ha hl)
  obtain ⟨ao, cap, b, off, rfl, hl⟩ := hl
  have hn := hl.nb
  have HLEN := Lib.hid (vals_len_le (l := l) a)
  have HRG := Lib.hid (vals_range (l := l) a)
  unfold I64 at ha
  by_cases hyes : 0 ≤ a ∧ a < lettersI l
  case neg =>
    have HR : Hid (halfI l q a = 0) := if_neg hyes
    have HE : Hid (valsI l a = []) := if_neg hyes
    clear hl hyes
    go_enter Tryd.func46, Tryd.ntmps46
    go_wp2_with fail
    refine H.out.mono ?_
    rintro e w1 ⟨v, rfl, hO, hb⟩
    rw [HE.out] at hO
    obtain ⟨av, cv, rfl⟩ := hO.slice
    go_wp2
    go_loop [8, 10] (fun n i => n = .int .i64 0 ∧ i = .int .i64 0) (fun _ _ => 0)
    case atStart => exact ⟨rfl, rfl⟩
    case round =>
      obtain ⟨rfl, rfl⟩ := hrel
      go_wp2
      go_ret
      exact ⟨ret_int (by rw [HR.out]), hb⟩
  have hv : validS l = true := by
    have h1 := hyes.2
    unfold lettersI at h1
    cases hv : validS l
    · rw [hv] at h1; simp at h1; omega
    · rfl
  have HR : Hid (halfI l q a = halfL q l a) := if_pos hyes
  have HE : Hid (valsI l a = digL l a) := if_pos hyes
  obtain ⟨hz, hl1, hl6, -⟩ := valid_sizes hv
  have HZ := Lib.hid hz
  have ha0 := hyes.1
  have HL2 : Hid ((digL l a).length = l.length) := digL_len l a
  clear hz hv hyes ha
  go_enter Tryd.func46, Tryd.ntmps46
  go_wp2_with fail
  refine H.out.mono ?_
  rintro e w1 ⟨v, rfl, hO, hb⟩
  obtain ⟨⟨av, cv, bv, ov, rfl, hvv⟩, -⟩ := NewI.ints hO HLEN.out HRG.out
  rw [HE.out] at hvv
  rw [show (valsI l a).length = l.length by rw [HE.out, HL2.out]]
  go_wp2
  go_loop [8, 9, 10] (fun n p i => ∃ (k : Nat) (s o : Int), i = .int .i64 k ∧ n = .int .i64 s ∧ p = .int .i64 o ∧ k ≤ l.length ∧ Hid (HalfAt l q a k s o))
    (fun _ _ i => l.length - (intOf i).toNat)
  case atStart => exact ⟨0, 0, 1, rfl, rfl, rfl, by omega, HalfAt.start l q a⟩
  case round =>
    obtain ⟨k, s, o, rfl, rfl, rfl, hk, HH⟩ := hrel
    by_cases hlt : k < l.length
    · obtain rfl := hl.ad (by omega)
      obtain rfl := hvv.ad (by rw [HL2.out]; omega)
      have c1 := cellB hb (hl.ni k hlt)
      have c2 := cellB hb (hl.nz k hlt)
      have c3 := hvv.el k (by rw [HL2.out]; exact hlt)
      unfold ivF at c3
      rw [digL_get HZ.out a k hlt] at c3
      obtain ⟨hs1, hs2⟩ := sizes_posV HZ.out _ (List.getElem_mem hlt)
      have hr0 := Int.emod_nonneg (a / prodL (l.take k)) (show l[k].size ≠ 0 by omega)
      have hr1 := Int.emod_lt_of_pos (a / prodL (l.take k)) (show 0 < l[k].size by omega)
      obtain ⟨hg1, hg2, hg3, hg4⟩ := HH.out
      have hbd := prodC_bd (fun x => x.inp == q) (l.take k) (fun s hs => HZ.out s (List.mem_of_mem_take hs))
      have ho1 : 1 ≤ o := by omega
      have ho2 : o ≤ 4096 := by rw [hg4]; exact Int.le_trans hbd.2 (pow4 (by rw [List.length_take]; omega))
      have hm := mk_bounds ho1 ho2 hr0 hr1 hs2
      have hpw := prod_wrap' ho1 ho2 hs1 hs2
      have HMISS : Hid ((l[k].inp == q) = false → HalfAt l q a (k + 1) s o) := fun h => HH.out.miss HZ.out hlt h
      have HHIT : Hid ((l[k].inp == q) = true → HalfAt l q a (k + 1) (s + o * (a / prodL (l.take k) % l[k].size)) (o * l[k].size)) := fun h => HH.out.hit HZ.out hlt h
      clear hg1 hg4 hbd
      generalize a / prodL (l.take k) % l[k].size = rm at *
      generalize l[k].size = z at *
      obtain ⟨⟨hm0, hm1⟩, hmw⟩ := hm
      cases hq : (l[k].inp == q)
      · have HM2 := Lib.hid (HMISS.out hq)
        go_wp2
        go_round
        case rel => exact ⟨k + 1, s, o, by go_num, rfl, rfl, by omega, HM2.out⟩
        case measure => simp [intOf]; omega
      · have HM2 := Lib.hid (HHIT.out hq)
        go_wp2
        go_round
        case rel => exact ⟨k + 1, _, _, by go_num, rfl, rfl, by omega, HM2.out⟩
        case measure => simp [intOf]; omega
    · obtain rfl : k = l.length := by omega
      have hd := HH.out.done
      have HD := Lib.hid hd
      clear hd
      go_wp2
      go_ret
      exact ⟨ret_int (by rw [HR.out, HD.out]), hb⟩

theorem RInput_c (w : World) (vl : Value) (l : List Sig) (a : Int) (ha : I64 a) (hl : IsSigs w vl l) :
    Calls Tryd.prog 28 #[vl, .int .i64 a] w (Calm (.int .i64 (halfI l true a)) w) := by
  have H := Lib.hid (Rhalf_c w vl l a true ha hl)
  obtain ⟨ao, cap, b, off, rfl, hl⟩ := hl
  clear hl ha
  go_enter Tryd.func28, Tryd.ntmps28
  go_wp2_with fail
  refine H.out.mono ?_
  rintro e w1 ⟨rfl, hb⟩
  go_wp2
  go_ret
  exact ⟨rfl, hb⟩
theorem ROutput_c (w : World) (vl : Value) (l : List Sig) (a : Int) (ha : I64 a) (hl : IsSigs w vl l) :
    Calls Tryd.prog 30 #[vl, .int .i64 a] w (Calm (.int .i64 (halfI l false a)) w) := by
  have H := Lib.hid (Rhalf_c w vl l a false ha hl)
  obtain ⟨ao, cap, b, off, rfl, hl⟩ := hl
  clear hl ha
  go_enter Tryd.func30, Tryd.ntmps30
  go_wp2_with fail
  refine H.out.mono ?_
  rintro e w1 ⟨rfl, hb⟩
  go_wp2
  go_ret
  exact ⟨rfl, hb⟩

end Go.Proofs.YtlfackilmpnlhaaDoor
