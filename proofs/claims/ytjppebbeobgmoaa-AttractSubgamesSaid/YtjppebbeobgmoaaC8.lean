/- What the functions that build sets compute: Not, rest. -/
import Derived.Test.YtjppebbeobgmoaaOwn
import Derived.Test.YtjppebbeobgmoaaC6
namespace Go.Proofs.Ytjppebbeobgmoaa
open Go.RowKit

def notL (l : List Bool) : List Bool := l.map fun b => !b

theorem notL_take (l : List Bool) (k : Nat) (h : k < l.length) : notL (l.take (k + 1)) = notL (l.take k) ++ [!l[k]] := by
  unfold notL; rw [List.take_succ_eq_append_getElem h, List.map_append]; rfl

/-- A result that is a set in new memory. -/
def NewBools (l : List Bool) (w : World) (e : Ending) (w' : World) : Prop := ∃ v, e = .returned v ∧ OB w' w.heap.size v l ∧ Below w.heap.size w w'

theorem Not_c (w : World) (va : Value) (a : List Bool) (ha : IsBools w va a) :
    Calls Try.prog 21 #[va] w (NewBools (notL a) w) := by
  obtain ⟨ao1, cap1, b1, off1, rfl, ha⟩ := ha
  have hn1 := ha.nb
  go_enter Try.func21, Try.ntmps21
  go_wp2
  go_loopw [3, 4] (fun v i wr => ∃ k : Nat, i = .int .i64 k ∧ k ≤ a.length ∧ OB wr w.heap.size v (notL (a.take k)) ∧ Below w.heap.size w wr) (fun _ i _ => a.length - (intOf i).toNat)
  case atStart =>
    exact ⟨0, rfl, by omega, World.ownsRow_made w #[] 0 (Nat.le_refl _) (by simp [maxLen]) rfl, (by repeat (first | exact Below.refl _ _ | assumption | (refine belA ?_ _) | (refine belD ?_ _)))⟩
  case round =>
    obtain ⟨k, rfl, hk, hown, hB⟩ := hrel
    by_cases hlt : k < a.length
    · obtain rfl := ha.ad (by omega)
      have c1 := cellB hB (ha.el k hlt)
      unfold bvF at c1
      rw [getD_lt _ _ _ hlt] at c1
      have hBs := hB.size
      have hnl : (notL (a.take k)).length < 140737488351232 := by simp [notL]; omega
      have HO := Lib.hid hown
      clear hown
      go_wp2_with (at_builtin; refine app_bool rfl _ _ (!a[k]) rfl w.heap.size _ _ HO.out rfl _ (by simp) rfl hnl hBs ?_; intro v' w' hown' hg hmv)
      go_roundw
      case rel => exact ⟨k + 1, by go_num, by omega, by rw [notL_take _ _ hlt]; exact hown', hB.grown hg hBs (fun g hg => (HO.out.lt g hg).1)⟩
      case measure => simp [intOf]; omega
    · obtain rfl : k = a.length := by omega
      rw [List.take_length] at hown
      go_wp2
      go_ret
      exact ⟨_, rfl, hown, hB⟩

theorem rest_c (w : World) (va : Value) (a : List Bool) (ha : IsBools w va a) :
    Calls Try.prog 35 #[va] w (NewBools (notL a) w) := by
  obtain ⟨ao1, cap1, b1, off1, rfl, ha⟩ := ha
  have hn1 := ha.nb
  go_enter Try.func35, Try.ntmps35
  go_wp2_with (at_make; refine mk_bool rfl _ _ _ Try.underlying49 rfl w.heap.size _ a.length rfl rfl rfl (by omega) (Nat.le_refl _) ?_; intro w1 hown1 hg1)
  have hB1 : Below w.heap.size w w1 := (Below.refl _ _).grown hg1 (Nat.le_refl _) (fun k hk => by cases hk)
  have hlt1 : w.heap.size < w1.heap.size := (hown1.lt w.heap.size rfl).2
  go_loopw [4, 5, 11] (fun _ _ i wr => ∃ (k : Nat) (l : List Bool), i = .int .i64 k ∧ k ≤ a.length ∧ l.length = a.length ∧ OB wr w.heap.size (.slice (some ⟨w.heap.size, 0, none⟩) a.length a.length) l ∧ Hid (l.take k = notL (a.take k)) ∧ Below w.heap.size w wr) (fun _ _ i _ => a.length - (intOf i).toNat)
  case atStart => exact ⟨0, _, rfl, by omega, by simp, hown1, by simp [Hid, notL], hB1⟩
  case round =>
    obtain ⟨k, l, rfl, hk, hl, hown, HE, hB⟩ := hrel
    have HL := Lib.hid hl
    clear hl hown1 hg1
    by_cases hlt : k < a.length
    · obtain rfl := ha.ad (by omega)
      have c1 := cellB hB (ha.el k hlt)
      unfold bvF at c1
      rw [getD_lt _ _ _ hlt] at c1
      have hlk : k < l.length := by rw [HL.out]; exact hlt
      have c2 := hown.at' HL.out.symm k hlk
      have f2 := hown.fz HL.out.symm k
      have HO := Lib.hid hown
      clear hown
      go_wp2
      go_roundw
      case rel =>
        refine ⟨k + 1, l.set k (!a[k]), by go_num, by omega, by rw [List.length_set]; exact HL.out, HO.out.set HL.out.symm k _, ?_, hB.setCell (Nat.le_refl _) _⟩
        show _ = _
        rw [notL_take _ _ hlt, ← HE.out, List.take_succ_eq_append_getElem (by simpa using hlk), List.take_set_of_le (Nat.le_refl _)]
        simp
      case measure => simp [intOf]; omega
    · go_wp2
      go_ret
      obtain rfl : k = a.length := by omega
      have h3 := HE.out
      rw [List.take_length, List.take_of_length_le (by rw [HL.out]; exact Nat.le_refl _)] at h3
      subst h3
      exact ⟨_, rfl, hown, hB⟩
end Go.Proofs.Ytjppebbeobgmoaa
