/- The law StrategyOne: its walk. -/
import Derived.Test.YtkbiopjinegckaaSt26
import Derived.Test.YtkbiopjinegckaaSt27
import Derived.Test.YtkbiopjinegckaaSt14
namespace Go.Proofs.Ytkbiopjinegckaa
open Go.RowKit

set_option maxRecDepth 100000 in
set_option maxHeartbeats 8000000 in
theorem One_walk (w : World) (vg va vs vb vt : Value) (g : Gm) (a : List Bool) (s : List Int) (b : List Bool) (t : List Int) (hg : IsGame w vg g) (ha : IsBools w va a) (hs : IsInts w vs s) (hb' : IsBools w vb b) (ht : IsInts w vt t) :
    Calls Try.prog 6 #[vg, va, vs, vb, vt] w (Calm (.bool true) w) := by
  obtain ⟨a0, c0, a1, c1, a2, c2, rfl⟩ := hg.shape
  obtain ⟨aA, cA, rfl⟩ := ha.shape
  obtain ⟨aS, cS, rfl⟩ := hs.shape
  obtain ⟨aB, cB, rfl⟩ := hb'.shape
  obtain ⟨aT, cT, rfl⟩ := ht.shape
  obtain ⟨n0, hn0⟩ : ∃ n, n = g.owner.length := ⟨_, rfl⟩
  obtain ⟨n, hn⟩ : ∃ n, n = a.length := ⟨_, rfl⟩
  obtain ⟨ls, hls⟩ : ∃ n, n = s.length := ⟨_, rfl⟩
  obtain ⟨lb, hlb⟩ : ∃ n, n = b.length := ⟨_, rfl⟩
  obtain ⟨lt, hlt⟩ : ∃ n, n = t.length := ⟨_, rfl⟩
  generalize hn1 : g.prio.length = n1 at *
  generalize hn2 : g.succ.length = n2 at *
  rw [← hn0] at hg ⊢
  rw [← hn] at ha ⊢
  rw [← hls] at hs ⊢
  rw [← hlb] at hb' ⊢
  rw [← hlt] at ht ⊢
  have HN := Lib.hid hn
  have HN0 := Lib.hid hn0
  have HLB := Lib.hid hlb
  clear hn0 hn hls hlb hlt hn1 hn2
  go_enter Try.func6, Try.ntmps6
  go_upto_region 1 with (fail)
  obtain ⟨hx, hb, hB⟩ := box_new (w0 := w) (Below.refl _ _) (Nat.le_refl _) #[.slice a0 n0 c0, .slice a1 n1 c1, .slice a2 n2 c2] 25
  replace hg := hg.below hb
  replace ha := ha.below hb
  replace hs := hs.below hb
  replace hb' := hb'.below hb
  replace ht := ht.below hb
  generalize w.alloc (.cells #[.slice a0 n0 c0, .slice a1 n1 c1, .slice a2 n2 c2] 25) = w1 at *
  have HE : Hid (∀ W, Below w1.heap.size w1 W → Calm (.bool true) w (.returned (.bool true)) W) := fun W h => ⟨rfl, hB.trans (h.mono hB.size)⟩
  clear hb hB
  generalize w.heap.size = zg at *
  go_wp2_with fail
  refine (head_c _).mono ?_
  rintro e w2 ⟨rfl, hb⟩
  replace hx := (hb.block _ (Array.getElem?_eq_some_iff.1 hx).1).trans hx
  replace hg := hg.below hb
  replace ha := ha.below hb
  replace hs := hs.below hb
  replace hb' := hb'.below hb
  replace ht := ht.below hb
  have k0 := cell_of_row _ _ 0 _ _ _ hx
  have k1 := cell_of_row _ _ 1 _ _ _ hx
  have k2 := cell_of_row _ _ 2 _ _ _ hx
  go_wp2_with fail
  refine (right_c _ _ _ _ g a s hg ha hs).mono ?_
  rintro e w3 ⟨rfl, hb3⟩
  replace hx := (hb3.block _ (Array.getElem?_eq_some_iff.1 hx).1).trans hx
  replace hg := hg.below hb3
  replace ha := ha.below hb3
  replace hs := hs.below hb3
  replace hb' := hb'.below hb3
  replace ht := ht.below hb3
  replace hb := hb.trans (hb3.mono hb.size)
  clear hb3 k0 k1 k2
  cases hr : rightB g a s
  · go_wp2_with fail
    go_ret
    exact HE.out _ hb
  cases h1 : ((lb : Int) != (n : Int))
  case true =>
    go_wp2_with fail
    go_ret
    exact HE.out _ hb
  cases h2 : ((lt : Int) != (n : Int))
  case true =>
    go_wp2_with fail
    go_ret
    exact HE.out _ hb
  have k0 := cell_of_row _ _ 0 _ _ _ hx
  have k1 := cell_of_row _ _ 1 _ _ _ hx
  have k2 := cell_of_row _ _ 2 _ _ _ hx
  go_wp2_with fail
  refine (Wins_c _ _ _ _ g 0 a s hg ha hs).mono ?_
  rintro e w4 ⟨rfl, hb3⟩
  replace hx := (hb3.block _ (Array.getElem?_eq_some_iff.1 hx).1).trans hx
  replace hg := hg.below hb3
  replace ha := ha.below hb3
  replace hb' := hb'.below hb3
  replace ht := ht.below hb3
  replace hb := hb.trans (hb3.mono hb.size)
  clear hb3 k0 k1 k2 hs
  cases w0 : winB g 0 a s
  · go_wp2_with fail
    go_ret
    exact HE.out _ hb
  have k0 := cell_of_row _ _ 0 _ _ _ hx
  have k1 := cell_of_row _ _ 1 _ _ _ hx
  have k2 := cell_of_row _ _ 2 _ _ _ hx
  go_wp2_with fail
  refine (Wins_c _ _ _ _ g 1 b t hg hb' ht).mono ?_
  rintro e w5 ⟨rfl, hb3⟩
  replace ha := ha.below hb3
  replace hb' := hb'.below hb3
  replace hb := hb.trans (hb3.mono hb.size)
  clear hb3 k0 k1 k2 hg ht hx
  cases w1' : winB g 1 b t
  · go_wp2_with fail
    go_ret
    exact HE.out _ hb
  have elb : lb = n := by have := h1; simp at this; omega
  have en : n = n0 := by
    simp only [rightB, Bool.and_eq_true, decide_eq_true_eq] at hr
    rw [HN.out, HN0.out]; exact hr.1.2
  have HNO : Hid (∀ k, k < n → ¬ (a.getD k false = true ∧ b.getD k false = true)) := fun k hk ⟨x1, x2⟩ => one_plain w0 w1' (x := k) (by rw [← HN0.out, ← en]; exact hk) x1 x2
  obtain ⟨bA, oA, hdA, mA, ddA⟩ := ha.data
  obtain ⟨bB, oB, hdB, mB, ddB⟩ := hb'.data
  have HDA := Lib.hid ddA
  have HDB := Lib.hid ddB
  clear ddA ddB
  subst elb
  clear hr h1 h2 w0 w1' ha hb' en
  have HBT := Lib.hid hb
  clear hb
  go_wp2_with fail
  go_loopg [12] lb (fun gh i wr => ∃ k : Nat, gh = lb - k ∧ i = .int .i64 k ∧ k ≤ lb ∧ wr = w5)
  case atStart => exact ⟨0, rfl, rfl, by omega, rfl⟩
  case round =>
    obtain ⟨k, hgk, rfl, hk, rfl⟩ := hrel
    have HG := Lib.hid hgk
    clear hgk
    by_cases hlt : k < lb
    · have xA := hdA (by omega)
      have xB := hdB (by omega)
      have yA := HDA.out k hlt
      have yB := HDB.out k hlt
      have hno := HNO.out k hlt
      cases qa : a.getD k false
      · rw [qa] at yA
        clear hno yB xB qa
        go_wp2_with fail
        go_roundg (lb - (k + 1))
        case measure => have := HG.out; omega
        case rel => exact ⟨k + 1, rfl, by go_num, by omega, rfl⟩
      · have qb : b.getD k false = false := by
          cases q : b.getD k false
          · rfl
          · exact absurd ⟨qa, q⟩ hno
        rw [qa] at yA
        rw [qb] at yB
        clear hno qb
        go_wp2_with fail
        go_roundg (lb - (k + 1))
        case measure => have := HG.out; omega
        case rel => exact ⟨k + 1, rfl, by go_num, by omega, rfl⟩
    · obtain rfl : k = lb := by omega
      go_wp2_with fail
      go_ret
      exact HE.out _ HBT.out
end Go.Proofs.Ytkbiopjinegckaa
