/- The first position with the least number. -/
import Derived.Test.YtijkjhcigdfdgaaQRkW8
namespace Go.Proofs.Ytijkjhcigdfdgaa
open Go.RowKit

set_option maxRecDepth 100000 in
theorem leastC_c (w : World) (vl vm : Value) (l : List Int) (m : List Int) (n : Nat) (f : Nat → Nat) (hl : IsInts w vl l) (hm : IsInts w vm m) (hn : m.length = n) (hne : l ≠ []) (hx : ∀ x ∈ l, ∃ j : Nat, x = (j : Int) ∧ j < n) (hf : ∀ i, i < n → m.getD i 0 = (f i : Int)) :
    Calls Try.prog 70 #[vl, vm] w (Quiet (.int .i64 (bestI f l)) w) := by
  obtain ⟨⟨al, cl, bl, ol, rfl, A⟩, -⟩ := hl
  obtain ⟨⟨a3, c3, b3, o3, rfl, A3⟩, -⟩ := hm
  have hpos : 0 < l.length := List.length_pos_iff.2 hne
  obtain rfl := A.ad hpos
  have nb := A.nb
  have nn3 := A3.nb
  have hc := A.lc
  have c0 := A.el 0 hpos
  unfold ivF at c0
  rw [Nat.add_zero] at c0
  have t0 : (0 : Int) < (l.length : Int) := by omega
  have t1 : (1 : Int) ≤ (l.length : Int) := by omega
  have t2 : 1 ≤ l.length := hpos
  have HL : Hid (∀ j, j < l.length → w.cell? ⟨bl, ol + j, none⟩ = some (.int .i64 (l.getD j 0))) := fun j hj => A.el j hj
  have HM : Hid (∀ j, j < n → w.cell? ⟨b3, o3 + j, none⟩ = some (.int .i64 (f j : Int))) := fun j hj => by rw [← hf j hj]; exact A3.el j (by rw [hn]; exact hj)
  have HB : Hid (∀ W (i j : Nat), Calls Try.prog 52 #[.int .i64 (f i : Int), .int .i64 (f j : Int)] W (Quiet (.bool (decide (f i < f j))) W)) := fun W i j => by
    have := befC_c W (f i) (f j)
    rwa [show decide ((f i : Int) < (f j : Int)) = decide (f i < f j) by simp] at this
  have HX : Hid (∀ x ∈ l, ∃ j : Nat, x = (j : Int) ∧ j < n) := hx
  have HNE := Lib.hid hne
  have hn0 : 0 < n := by obtain ⟨x, hx'⟩ := List.exists_mem_of_ne_nil _ hne; obtain ⟨j, -, hj⟩ := hx x hx'; omega
  obtain rfl := A3.ad (by omega)
  rw [hn] at nn3 ⊢
  have H0 : Hid (l.getD 0 0 = bestI f (l.take 1)) := (best_one f hpos).symm
  clear hx hf A A3 hne hn
  generalize l.getD 0 0 = x0 at *
  have hm : ∀ (v : Value) (w : World), (method 216 58 v "foresight/rank.before").run Try.prog w = .ok (52, v) w := fun _ _ => by kernel_rfl
  by_cases h1 : l.length = 1
  · have HE : Hid (bestI f l = x0) := by show _ = _; rw [H0.out, List.take_of_length_le (by omega)]
    generalize l.length = ln at *
    subst h1
    by_cases hcl : cl = 1
    · go_enter Try.func70, Try.ntmps70
      go_upto_region 3 with (fail)
      go_loopg [5, 7, 14] 1 (fun gh b _ i wr => gh = 1 ∧ b = .int .i64 x0 ∧ i = .int .i64 0 ∧ wr = w)
      case atStart => exact ⟨rfl, rfl, rfl, rfl⟩
      case round =>
        obtain ⟨rfl, rfl, rfl, rfl⟩ := hrel
        go_wp2
        go_ret
        exact ⟨by rw [HE.out]; rfl, 0, rfl⟩
    · go_enter Try.func70, Try.ntmps70
      go_upto_region 3 with (fail)
      go_loopg [5, 7, 14] 1 (fun gh b _ i wr => gh = 1 ∧ b = .int .i64 x0 ∧ i = .int .i64 0 ∧ wr = w)
      case atStart => exact ⟨rfl, rfl, rfl, rfl⟩
      case round =>
        obtain ⟨rfl, rfl, rfl, rfl⟩ := hrel
        go_wp2
        go_ret
        exact ⟨by rw [HE.out]; rfl, 0, rfl⟩
  · have hcl : ¬ cl = 1 := by omega
    go_enter Try.func70, Try.ntmps70
    go_upto_region 3 with (fail)
    go_loopg [5, 7, 14] l.length (fun gh b _ i wr => ∃ k nd : Nat, gh = l.length - k ∧ b = .int .i64 (bestI f (l.take (k + 1))) ∧ i = .int .i64 (k : Int) ∧ k + 1 ≤ l.length ∧ Hid (wr = w.drewN nd))
    case atStart => exact ⟨0, 0, rfl, by rw [H0.out], rfl, by omega, rfl⟩
    case round =>
      obtain ⟨k, nd, hgk, rfl, rfl, hk, HW⟩ := hrel
      have HGK := Lib.hid hgk
      clear hgk
      have HBW : Hid (Below w.heap.size w wr) := by show Below _ _ _; rw [HW.out]; exact below_draws _ _ _
      by_cases hlt : k + 1 < l.length
      · have hk1 : (k : Int) < (l.length : Int) - 1 := by omega
        have hmem : l.getD (k + 1) 0 ∈ l := by rw [getD_lt _ _ _ hlt]; exact List.getElem_mem hlt
        obtain ⟨u, hu, hun⟩ := HX.out (l.getD (k + 1) 0) hmem
        obtain ⟨q, hq, hqn⟩ := HX.out (bestI f (l.take (k + 1))) (List.mem_of_mem_take (best_mem f (fun e => by have := congrArg List.length e; rw [List.length_take] at this; simp at this; have := HNE.out; simp_all)))
        have r1 : wr.cell? ⟨bl, ol + 1 + k, none⟩ = some (.int .i64 (u : Int)) := by
          have := cellB HBW.out (HL.out (k + 1) hlt)
          rwa [show ol + (k + 1) = ol + 1 + k by omega, hu] at this
        have r2 := cellB HBW.out (HM.out u hun)
        have r3 := cellB HBW.out (HM.out q hqn)
        have HT : Hid (bestI f (l.take (k + 2)) = if f u < f q then (u : Int) else (q : Int)) := by
          show _ = _
          rw [best_take f l hlt, hu, hq]; simp
        have HC : Hid (∀ W, Below w.heap.size w W → Calls Try.prog 52 #[.int .i64 (f u : Int), .int .i64 (f q : Int)] W (Quiet (.bool (decide (f u < f q))) W)) := fun W _ => HB.out W u q
        rw [hq]
        have u1 : (u : Int) < (n : Int) := by omega
        have u2 : (q : Int) < (n : Int) := by omega
        clear hu hq hmem
        go_upto_region 5 with (fail)
        go_quiet ((go_at_call 52; refine (HC.out _ (by repeat (first | exact HBW.out | refine belD ?_ _))).mono ?_; rintro e w' ⟨rfl, n', rfl⟩; exact ⟨rfl, _, by rw [World.drewN_drewN]⟩))
        by_cases hc : f u < f q
        · have t5 : decide (f u < f q) = true := decide_eq_true hc
          have HT2 : Hid (bestI f (l.take (k + 2)) = (u : Int)) := by show _ = _; rw [HT.out, if_pos hc]
          go_wp2
          go_roundg (l.length - (k + 1))
          case measure => have := HGK.out; omega
          case rel => exact ⟨k + 1, _, rfl, by rw [HT2.out], by go_num, hlt, by show _ = _; rw [HW.out, World.drewN_drewN]⟩
        · have t5 : decide (f u < f q) = false := decide_eq_false hc
          have HT2 : Hid (bestI f (l.take (k + 2)) = (q : Int)) := by show _ = _; rw [HT.out, if_neg hc]
          go_wp2
          go_roundg (l.length - (k + 1))
          case measure => have := HGK.out; omega
          case rel => exact ⟨k + 1, _, rfl, by rw [HT2.out], by go_num, hlt, by show _ = _; rw [HW.out, World.drewN_drewN]⟩
      · have hd : ¬ (k : Int) < (l.length : Int) - 1 := by omega
        have HE : Hid (bestI f (l.take (k + 1)) = bestI f l) := by show _ = _; rw [List.take_of_length_le (by omega)]
        go_wp2
        go_ret
        exact ⟨by rw [HE.out]; rfl, _, HW.out⟩

end Go.Proofs.Ytijkjhcigdfdgaa
