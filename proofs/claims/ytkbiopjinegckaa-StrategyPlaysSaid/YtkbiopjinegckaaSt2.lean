/- What slices.Index, slices.Contains and the reference's follows compute. -/
import Derived.Test.YtkbiopjinegckaaStC
namespace Go.Proofs.Ytkbiopjinegckaa
open Go.RowKit

def IdxOut (l : List Int) (x : Int) (w : World) (e : Ending) (w' : World) : Prop := ∃ r : Int, e = .returned (.int .i64 r) ∧ I64 r ∧ (0 ≤ r ↔ x ∈ l) ∧ ∃ n, w' = w.drewN n

theorem take_mem_succ (l : List Int) (x : Int) (k : Nat) (h : k < l.length) (h1 : x ∉ l.take k) (h2 : (x == l[k]) = false) : x ∉ l.take (k + 1) := by
  rw [List.take_succ_eq_append_getElem h, List.mem_append, List.mem_singleton]
  rintro (h | rfl)
  · exact h1 h
  · simp at h2

theorem Index_c (w : World) (v : Value) (l : List Int) (x : Int) (h : IsInts w v l) :
    Calls Try.prog 41 #[v, .int .i64 x] w (IdxOut l x w) := by
  obtain ⟨⟨ao, cap, b, off, rfl, g⟩, _⟩ := h
  have hn := g.nb
  go_enter Try.func41, Try.ntmps41
  go_wp2
  go_loop [4, 5, 8] (fun r _ i => ∃ k : Nat, i = .int .i64 k ∧ r = .int .i64 0 ∧ k ≤ l.length ∧ x ∉ l.take k) (fun _ _ i => l.length - (intOf i).toNat)
  case atStart => exact ⟨0, rfl, rfl, by omega, by simp⟩
  case round =>
    obtain ⟨k, rfl, rfl, hk, heq⟩ := hrel
    have HE := Lib.hid heq
    clear heq
    by_cases hlt : k < l.length
    · obtain rfl := g.ad (by omega)
      have c2 := g.el k hlt
      unfold ivF at c2
      rw [getD_lt _ _ _ hlt] at c2
      cases hq : (x == l[k])
      · go_wp2
        go_round
        case rel => exact ⟨k + 1, by go_num, rfl, by omega, take_mem_succ l x k hlt HE.out hq⟩
        case measure => simp [intOf]; omega
      · go_wp2
        go_ret
        refine ⟨_, rfl, by unfold I64; omega, ⟨fun _ => ?_, fun _ => by omega⟩, 0, rfl⟩
        have : x = l[k] := by simpa using hq
        rw [this]; exact List.getElem_mem hlt
    · go_wp2
      go_ret
      refine ⟨_, rfl, by unfold I64; omega, ⟨fun h => by omega, fun hm => ?_⟩, 0, rfl⟩
      have h3 := HE.out
      rw [List.take_of_length_le (by omega)] at h3
      exact absurd hm h3

theorem Contains_c (w : World) (v : Value) (l : List Int) (x : Int) (h : IsInts w v l) :
    Calls Try.prog 32 #[v, .int .i64 x] w (Quiet (.bool (decide (x ∈ l))) w) := by
  go_enter Try.func32, Try.ntmps32
  go_wp2_with fail
  refine (Index_c _ _ l x h).mono ?_
  rintro e w1 ⟨r, rfl, hr, hrl, n, rfl⟩
  go_wp2
  go_ret
  refine ⟨ret_bool ?_, n, rfl⟩
  simp

theorem follows_c (w : World) (vg : Value) (g : Gm) (k : Nat) (x : Int) (hg : IsGame w vg g) (hk : k < g.succ.length) :
    Calls Try.prog 34 #[vg, .int .i64 k, .int .i64 x] w (Calm (.bool (decide (x ∈ g.succ.getD k []))) w) := by
  obtain ⟨v0, v1, v2, rfl, ⟨⟨ao0, cap0, b0, off0, rfl, g0⟩, _⟩, ⟨⟨ao1, cap1, b1, off1, rfl, g1⟩, _⟩, ⟨V, ⟨ao2, cap2, b2, off2, rfl, g2⟩, hr⟩⟩ := hg
  have hn2 := g2.nb
  obtain rfl := g2.ad (by omega)
  have c2 := g2.el k hk
  obtain ⟨⟨ao, cap, b, off, hv, g3⟩, _⟩ := hr k hk
  rw [hv] at c2
  have hn := g3.nb
  clear hv hr g0 g1 g2
  generalize g.succ.getD k [] = l at *
  have cB := cellB ((Below.refl _ _).alloc (Nat.le_refl _) (Obj.cells #[Value.slice ao0 g.owner.length cap0, Value.slice ao1 g.prio.length cap1, Value.slice (some ⟨b2, off2, none⟩) g.succ.length cap2] 25)) c2
  go_enter Try.func34, Try.ntmps34
  go_wp2
  go_loop [6, 7] (fun r i => ∃ k : Nat, i = .int .i64 k ∧ r = .bool false ∧ k ≤ l.length ∧ x ∉ l.take k) (fun _ i => l.length - (intOf i).toNat)
  case atStart => exact ⟨0, rfl, rfl, by omega, by simp⟩
  case round =>
    obtain ⟨j, rfl, rfl, hj, heq⟩ := hrel
    have HE := Lib.hid heq
    clear heq
    by_cases hlt : j < l.length
    · obtain rfl := g3.ad (by omega)
      have c3 := cellB ((Below.refl _ _).alloc (Nat.le_refl _) (Obj.cells #[Value.slice ao0 g.owner.length cap0, Value.slice ao1 g.prio.length cap1, Value.slice (some ⟨b2, off2, none⟩) g.succ.length cap2] 25)) (g3.el j hlt)
      unfold ivF at c3
      rw [getD_lt _ _ _ hlt] at c3
      cases hq : (l[j] == x)
      · go_wp2
        go_round
        case rel => exact ⟨j + 1, by go_num, rfl, by omega, take_mem_succ l x j hlt HE.out (by rw [← hq]; exact BEq.comm)⟩
        case measure => simp [intOf]; omega
      · go_wp2
        go_ret
        refine ⟨ret_bool ?_, (Below.refl _ _).alloc (Nat.le_refl _) _⟩
        have : l[j] = x := by simpa using hq
        simp only [true_eq_decide_iff]
        rw [← this]; exact List.getElem_mem hlt
    · go_wp2
      go_ret
      refine ⟨ret_bool ?_, (Below.refl _ _).alloc (Nat.le_refl _) _⟩
      have h3 := HE.out
      rw [List.take_of_length_le (by omega)] at h3
      simp [h3]

end Go.Proofs.Ytkbiopjinegckaa
