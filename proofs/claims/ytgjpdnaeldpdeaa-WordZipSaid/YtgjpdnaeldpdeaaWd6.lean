/- What formed, Formed, pick, at, Ints, Equal compute. -/
import Derived.Test.YtgjpdnaeldpdeaaWd5
namespace Go.Proofs.Ytgjpdnaeldpdeaa
open Go.RowKit

theorem formB_split (l : Ls) : formB l = (decide (l.stem.length ≤ 60) && decide (1 ≤ l.loop.length) && decide (l.loop.length ≤ 40) && belB 64 l.stem && belB 64 l.loop) := rfl

set_option maxHeartbeats 2000000 in
theorem formed_c (w : World) (v : Value) (l : Ls) (hl : IsLs w v l) :
    Calls Try.prog 34 #[v] w (Calm (.bool (formB l)) w) := by
  obtain ⟨v0, v1, rfl, h0, h1⟩ := hl
  have H0 := Lib.hid (fun (W : World) (hW : Below w.heap.size w W) => below_c W v0 l.stem 64 (h0.below hW))
  have H1 := Lib.hid (fun (W : World) (hW : Below w.heap.size w W) => below_c W v1 l.loop 64 (h1.below hW))
  obtain ⟨⟨a0, c0, b0, o0, rfl, g0⟩, -⟩ := h0
  obtain ⟨⟨a1, c1, b1, o1, rfl, g1⟩, -⟩ := h1
  have hn0 := g0.nb
  have hn1 := g1.nb
  have HF := Lib.hid (formB_split l)
  generalize belB 64 l.stem = r0 at *
  generalize belB 64 l.loop = r1 at *
  generalize formB l = r at *
  clear g0 g1
  by_cases q0 : (60 : Int) < l.stem.length
  · have HR : Hid (r = false) := by show _ = _; rw [HF.out]; simp; omega
    go_enter Try.func34, Try.ntmps34
    go_wp2
    go_ret
    exact ⟨ret_bool HR.out.symm, bel_box _⟩
  by_cases q1 : (l.loop.length : Int) < 1
  · have HR : Hid (r = false) := by show _ = _; rw [HF.out]; simp; omega
    go_enter Try.func34, Try.ntmps34
    go_wp2
    go_ret
    exact ⟨ret_bool HR.out.symm, bel_box _⟩
  by_cases q2 : (40 : Int) < l.loop.length
  · have HR : Hid (r = false) := by show _ = _; rw [HF.out]; simp; omega
    go_enter Try.func34, Try.ntmps34
    go_wp2
    go_ret
    exact ⟨ret_bool HR.out.symm, bel_box _⟩
  have HR : Hid (r = (r0 && r1)) := by
    show _ = _
    rw [HF.out, decide_eq_true (show l.stem.length ≤ 60 by omega), decide_eq_true (show 1 ≤ l.loop.length by omega), decide_eq_true (show l.loop.length ≤ 40 by omega)]
    rfl
  go_enter Try.func34, Try.ntmps34
  go_wp2_with fail
  refine (H0.out _ (bel_box _)).mono ?_
  rintro e w' ⟨rfl, rfl⟩
  cases r0 with
  | false =>
    go_wp2
    go_ret
    exact ⟨ret_bool (by rw [HR.out]; rfl), bel_box _⟩
  | true =>
    go_wp2_with fail
    refine (H1.out _ (bel_box _)).mono ?_
    rintro e w' ⟨rfl, rfl⟩
    go_wp2
    go_ret
    exact ⟨ret_bool (by rw [HR.out]; rfl), bel_box _⟩

set_option maxHeartbeats 2000000 in
theorem RFormed_c (w : World) (v : Value) (l : Ls) (hl : IsLs w v l) :
    Calls Try.prog 30 #[v] w (Calm (.bool (formB l)) w) := by
  obtain ⟨v0, v1, rfl, h0, h1⟩ := hl
  obtain ⟨⟨a0, c0, b0, o0, rfl, g0⟩, -⟩ := h0
  obtain ⟨⟨a1, c1, b1, o1, rfl, g1⟩, -⟩ := h1
  have hn0 := g0.nb
  have hn1 := g1.nb
  have HF := Lib.hid (formB_split l)
  have HS0 := Lib.hid (fun k (h : k < l.stem.length) (hb : letB l.stem[k] = false) => all_false_of l.stem letB k h hb)
  have HS1 := Lib.hid (fun k (h : k < l.loop.length) (hb : letB l.loop[k] = false) => all_false_of l.loop letB k h hb)
  rw [belB_let, belB_let] at HF
  generalize formB l = r at *
  by_cases q0 : (60 : Int) < l.stem.length
  · have HR : Hid (r = false) := by show _ = _; rw [HF.out]; simp; omega
    go_enter Try.func30, Try.ntmps30
    go_wp2
    go_ret
    exact ⟨ret_bool HR.out.symm, bel_box _⟩
  by_cases q1 : (l.loop.length : Int) < 1
  · have HR : Hid (r = false) := by show _ = _; rw [HF.out]; simp; omega
    go_enter Try.func30, Try.ntmps30
    go_wp2
    go_ret
    exact ⟨ret_bool HR.out.symm, bel_box _⟩
  by_cases q2 : (40 : Int) < l.loop.length
  · have HR : Hid (r = false) := by show _ = _; rw [HF.out]; simp; omega
    go_enter Try.func30, Try.ntmps30
    go_wp2
    go_ret
    exact ⟨ret_bool HR.out.symm, bel_box _⟩
  have HR : Hid (r = (l.stem.all letB && l.loop.all letB)) := by
    show _ = _
    rw [HF.out, decide_eq_true (show l.stem.length ≤ 60 by omega), decide_eq_true (show 1 ≤ l.loop.length by omega), decide_eq_true (show l.loop.length ≤ 40 by omega)]
    rfl
  clear HF
  go_enter Try.func30, Try.ntmps30
  go_wp2
  have hB0 : Below w.heap.size w (w.alloc (Obj.cells #[Value.slice a0 l.stem.length c0, Value.slice a1 l.loop.length c1] 24)) := bel_box _
  have cA : (w.alloc (Obj.cells #[Value.slice a0 l.stem.length c0, Value.slice a1 l.loop.length c1] 24)).cell? ⟨w.heap.size, 0, none⟩ = some (Value.slice a0 l.stem.length c0) := boxCell 0 (Below.refl _ _) rfl
  have cB : (w.alloc (Obj.cells #[Value.slice a0 l.stem.length c0, Value.slice a1 l.loop.length c1] 24)).cell? ⟨w.heap.size, 1, none⟩ = some (Value.slice a1 l.loop.length c1) := boxCell 1 (Below.refl _ _) rfl
  generalize (w.alloc (Obj.cells #[Value.slice a0 l.stem.length c0, Value.slice a1 l.loop.length c1] 24)) = w1 at *
  go_loop [3] (fun i => ∃ k : Nat, i = .int .i64 k ∧ k ≤ l.stem.length ∧ Hid ((l.stem.take k).all letB = true)) (fun i => l.stem.length - (intOf i).toNat)
  case atStart => exact ⟨0, rfl, by omega, by show _ = _; simp⟩
  case round =>
    obtain ⟨k, rfl, hk, HA⟩ := hrel
    by_cases hlt : k < l.stem.length
    · obtain rfl := g0.ad (by omega)
      have e1 := cellB hB0 (g0.el k hlt)
      unfold ivF at e1
      rw [getD_lt _ _ _ hlt] at e1
      have HS := Lib.hid (all_take_succ l.stem letB k hlt)
      have HF0 := Lib.hid (HS0.out k hlt)
      generalize l.stem[k] = x at *
      go_wp2_with fail
      refine (Letter_c _ x).mono ?_
      rintro e w2 ⟨rfl, rfl⟩
      cases hx : letB x
      · have HF := Lib.hid (HF0.out hx)
        go_wp2
        go_ret
        exact ⟨ret_bool (by rw [HR.out, HF.out]; rfl), hB0⟩
      · have HT : Hid ((l.stem.take (k + 1)).all letB = true) := by show _ = _; rw [HS.out, HA.out, hx]; rfl
        go_wp2
        go_round
        case rel => exact ⟨k + 1, by go_num, by omega, HT⟩
        case measure => simp [intOf]; omega
    · obtain rfl : k = l.stem.length := by omega
      have HT : Hid (l.stem.all letB = true) := by
        show _ = _
        have := HA.out
        rwa [List.take_length] at this
      clear HA hk hlt
      go_wp2
      go_loop [5] (fun i => ∃ k : Nat, i = .int .i64 k ∧ k ≤ l.loop.length ∧ Hid ((l.loop.take k).all letB = true)) (fun i => l.loop.length - (intOf i).toNat)
      case atStart => exact ⟨0, rfl, by omega, by show _ = _; simp⟩
      case round =>
        obtain ⟨k, rfl, hk, HA⟩ := hrel
        by_cases hlt : k < l.loop.length
        · obtain rfl := g1.ad (by omega)
          have e1 := cellB hB0 (g1.el k hlt)
          unfold ivF at e1
          rw [getD_lt _ _ _ hlt] at e1
          have HS := Lib.hid (all_take_succ l.loop letB k hlt)
          have HF0 := Lib.hid (HS1.out k hlt)
          generalize l.loop[k] = x at *
          go_wp2_with fail
          refine (Letter_c _ x).mono ?_
          rintro e w2 ⟨rfl, rfl⟩
          cases hx : letB x
          · have HF := Lib.hid (HF0.out hx)
            go_wp2
            go_ret
            exact ⟨ret_bool (by rw [HR.out, HF.out, Bool.and_false]), hB0⟩
          · have HT : Hid ((l.loop.take (k + 1)).all letB = true) := by show _ = _; rw [HS.out, HA.out, hx]; rfl
            go_wp2
            go_round
            case rel => exact ⟨k + 1, by go_num, by omega, HT⟩
            case measure => simp [intOf]; omega
        · obtain rfl : k = l.loop.length := by omega
          have HT2 : Hid (l.loop.all letB = true) := by
            show _ = _
            have := HA.out
            rwa [List.take_length] at this
          go_wp2
          go_ret
          exact ⟨ret_bool (by rw [HR.out, HT.out, HT2.out]; rfl), hB0⟩

end Go.Proofs.Ytgjpdnaeldpdeaa
