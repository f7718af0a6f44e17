/- What the reference's can computes. -/
import Derived.Test.YtjppebbeobgmoaaC6
namespace Go.Proofs.Ytjppebbeobgmoaa
open Go.RowKit

def canB (g : Gm) (p : Int) (s : List Bool) (i : Nat) : Bool :=
  if g.owner.getD i 0 = p then (g.succ.getD i []).any (atB s) else (g.succ.getD i []).all (atB s)

set_option maxRecDepth 100000 in
set_option maxHeartbeats 4000000 in
theorem can_c (w : World) (vg vs : Value) (g : Gm) (p : Int) (s : List Bool) (i : Nat) (hg : IsGame w vg g) (hs : IsBools w vs s) (hi0 : i < g.owner.length) (hi2 : i < g.succ.length)
    (hx : ∀ x ∈ g.succ.getD i [], 0 ≤ x ∧ x < s.length) :
    Calls Try.prog 32 #[vg, .int .i64 p, vs, .int .i64 i] w (Calm (.bool (canB g p s i)) w) := by
  obtain ⟨v0, v1, v2, rfl, ⟨⟨ao0, cap0, b0, off0, rfl, g0⟩, _⟩, _, ⟨V, ⟨ao2, cap2, b2, off2, rfl, g2⟩, hr⟩⟩ := hg
  obtain ⟨aos, caps, bs, offs, rfl, hs⟩ := hs
  have hn0 := g0.nb
  have hn2 := g2.nb
  have hns := hs.nb
  obtain rfl := g0.ad (by omega)
  obtain rfl := g2.ad (by omega)
  have hBx : Below w.heap.size w (w.alloc (Obj.cells #[Value.slice (some ⟨b0, off0, none⟩) g.owner.length cap0, v1, Value.slice (some ⟨b2, off2, none⟩) g.succ.length cap2] 25)) := (by repeat (first | exact Below.refl _ _ | assumption | (refine belA ?_ _) | (refine belD ?_ _)))
  have c0 := cellB hBx (g0.el i hi0)
  have c2 := cellB hBx (g2.el i hi2)
  obtain ⟨⟨ao, cap, b, off, hv, g3⟩, _⟩ := hr i hi2
  rw [hv] at c2
  unfold ivF at c0
  have hcan : Hid (canB g p s i = if g.owner[i] = p then g.succ[i].any (atB s) else g.succ[i].all (atB s)) := by
    show _ = _
    unfold canB; rw [getD_lt _ _ _ hi0, getD_lt _ _ _ hi2]
  rw [getD_lt _ _ _ hi0] at c0
  rw [getD_lt _ _ _ hi2] at c2 g3 hx
  clear hv hr
  have hn := g3.nb
  have HX := Lib.hid hx
  clear hx
  go_enter Try.func32, Try.ntmps32
  go_wp2
  go_loop [9, 10, 11] (fun so al i' => ∃ k : Nat, i' = .int .i64 k ∧ so = .bool ((g.succ[i].take k).any (atB s)) ∧ al = .bool ((g.succ[i].take k).all (atB s)) ∧ k ≤ g.succ[i].length) (fun _ _ i' => g.succ[i].length - (intOf i').toNat)
  case atStart => exact ⟨0, rfl, by simp, by simp, by omega⟩
  case round =>
    obtain ⟨k, rfl, hso, hal, hk⟩ := hrel
    have HSO := Lib.hid hso
    have HAL := Lib.hid hal
    by_cases hlt : k < g.succ[i].length
    · obtain rfl := g3.ad (by omega)
      have c3 := cellB hBx (g3.el k hlt)
      unfold ivF at c3
      rw [getD_lt _ _ _ hlt] at c3
      obtain ⟨x0, x1⟩ := HX.out g.succ[i][k] (List.getElem_mem hlt)
      obtain ⟨m, hm⟩ := Int.eq_ofNat_of_zero_le x0
      have hml : m < s.length := by omega
      obtain rfl := hs.ad (by omega)
      have c4 := cellB hBx (hs.el m hml)
      unfold bvF at c4
      rw [getD_lt _ _ _ hml] at c4
      have HQ : Hid (atB s g.succ[i][k] = s[m]) := by show _ = _; rw [atB, hm]; simp [hml]
      rw [hm] at c3
      have hso2 := any_take_succ g.succ[i] (atB s) k hlt
      have hal2 := all_take_succ g.succ[i] (atB s) k hlt
      rw [HQ.out] at hso2 hal2
      have HSO2 := Lib.hid hso2
      have HAL2 := Lib.hid hal2
      clear hso2 hal2 x0 x1 hm hso hal
      generalize (g.succ[i].take k).any (atB s) = so at *
      generalize (g.succ[i].take k).all (atB s) = al at *
      obtain rfl := HSO.out
      obtain rfl := HAL.out
      cases so <;> cases al
      all_goals
        go_wp2
        go_round
        case rel => exact ⟨k + 1, by go_num, by rw [HSO2.out]; rfl, by rw [HAL2.out]; rfl, by omega⟩
        case measure => simp [intOf]; omega
    · obtain rfl : k = g.succ[i].length := by omega
      rw [List.take_length] at hso hal
      subst hso hal
      clear HSO HAL
      go_wp2
      · have h : (g.owner[i] == p) = true := by assumption
        go_ret
        exact ⟨ret_bool (by rw [hcan.out, if_pos (by simpa using h)]), (by repeat (first | exact Below.refl _ _ | assumption | (refine belA ?_ _) | (refine belD ?_ _)))⟩
      · have h : (g.owner[i] == p) = false := by assumption
        go_ret
        exact ⟨ret_bool (by rw [hcan.out, if_neg (by simpa using h)]), (by repeat (first | exact Below.refl _ _ | assumption | (refine belA ?_ _) | (refine belD ?_ _)))⟩
end Go.Proofs.Ytjppebbeobgmoaa
