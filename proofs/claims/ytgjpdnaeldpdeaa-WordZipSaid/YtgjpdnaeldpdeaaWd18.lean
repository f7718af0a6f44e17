/- What Valid computes, the program's and the reference's. -/
import Derived.Test.YtgjpdnaeldpdeaaWd15
namespace Go.Proofs.Ytgjpdnaeldpdeaa
open Go.RowKit

def ltB (k : Int) (l : List Int) : Bool := l.all fun x => decide (x < k)
theorem validI_eq (k : Int) (l : Ls) : validI k l = (ltB k l.stem && ltB k l.loop && formB l) := by
  unfold validI ltB
  cases formB l <;> simp
theorem all_nonneg {k : Int} {l : List Int} (h : l.all letB = true) : belB k l = ltB k l := by
  unfold belB ltB
  rw [Bool.eq_iff_iff, List.all_eq_true, List.all_eq_true]
  rw [List.all_eq_true] at h
  exact ⟨fun h2 x hx => by have := h2 x hx; simp at this; simpa using this.2, fun h2 x hx => by have h3 := h2 x hx; have h4 := (letB_iff x).1 (h x hx); simp at h3 ⊢; omega⟩
theorem valid_below (k : Int) (l : Ls) : validI k l = (formB l && belB k l.stem && belB k l.loop) := by
  rw [validI_eq]
  by_cases hf : formB l = true
  · obtain ⟨_, _, _, h1, h2⟩ := (formB_iff l).1 hf
    rw [all_nonneg (List.all_eq_true.2 h1), all_nonneg (List.all_eq_true.2 h2), hf]; simp
  · rw [Bool.not_eq_true] at hf
    rw [hf]; simp

set_option maxHeartbeats 2000000 in
theorem Valid_c (w : World) (v : Value) (l : Ls) (k : Int) (hl : IsLs w v l) :
    Calls Try.prog 12 #[.int .i64 k, v] w (Calm (.bool (validI k l)) w) := by
  have HF := Lib.hid (fun (W : World) (hW : Below w.heap.size w W) => formed_c W v l (hl.below hW))
  have HR := Lib.hid (valid_below k l)
  obtain ⟨v0, v1, rfl, h0, h1⟩ := hl
  have H0 := Lib.hid (fun (W : World) (hW : Below w.heap.size w W) => below_c W v0 l.stem k (h0.below hW))
  have H1 := Lib.hid (fun (W : World) (hW : Below w.heap.size w W) => below_c W v1 l.loop k (h1.below hW))
  obtain ⟨⟨a0, c0, b0, o0, rfl, g0⟩, -⟩ := h0
  obtain ⟨⟨a1, c1, b1, o1, rfl, g1⟩, -⟩ := h1
  clear g0 g1
  generalize validI k l = r at *
  generalize formB l = f at *
  generalize belB k l.stem = p at *
  generalize belB k l.loop = q at *
  go_enter Try.func12, Try.ntmps12
  go_wp2_with fail
  refine (HF.out _ (bel_box _)).mono ?_
  rintro e w2 ⟨rfl, hb2⟩
  have hB2 := (bel_box (w := w) (Obj.cells #[Value.slice a0 l.stem.length c0, Value.slice a1 l.loop.length c1] 24)).trans (hb2.mono (by simp))
  have cA : w2.cell? ⟨w.heap.size, 0, none⟩ = some (Value.slice a0 l.stem.length c0) := boxCell 0 hb2 rfl
  have cB : w2.cell? ⟨w.heap.size, 1, none⟩ = some (Value.slice a1 l.loop.length c1) := boxCell 1 hb2 rfl
  clear hb2
  cases f with
  | false =>
    go_wp2
    go_ret
    exact ⟨ret_bool (by rw [HR.out]; rfl), hB2⟩
  | true =>
    go_wp2_with fail
    refine (H0.out _ hB2).mono ?_
    rintro e w3 ⟨rfl, rfl⟩
    cases p with
    | false =>
      go_wp2
      go_ret
      exact ⟨ret_bool (by rw [HR.out]; rfl), hB2⟩
    | true =>
      go_wp2_with fail
      refine (H1.out _ hB2).mono ?_
      rintro e w3 ⟨rfl, rfl⟩
      go_wp2
      go_ret
      exact ⟨ret_bool (by rw [HR.out]; rfl), hB2⟩

set_option maxHeartbeats 2000000 in
theorem RValid_c (w : World) (v : Value) (l : Ls) (z : Int) (hl : IsLs w v l) :
    Calls Try.prog 13 #[.int .i64 z, v] w (Calm (.bool (validI z l)) w) := by
  have HF := Lib.hid (fun (W : World) (hW : Below w.heap.size w W) => RFormed_c W v l (hl.below hW))
  have HR := Lib.hid (validI_eq z l)
  obtain ⟨v0, v1, rfl, h0, h1⟩ := hl
  obtain ⟨⟨a0, c0, b0, o0, rfl, g0⟩, -⟩ := h0
  obtain ⟨⟨a1, c1, b1, o1, rfl, g1⟩, -⟩ := h1
  have hn0 := g0.nb
  have hn1 := g1.nb
  have HS0 := Lib.hid (fun k (h : k < l.stem.length) (hb : decide (l.stem[k] < z) = false) => all_false_of l.stem (fun x => decide (x < z)) k h hb)
  have HS1 := Lib.hid (fun k (h : k < l.loop.length) (hb : decide (l.loop[k] < z) = false) => all_false_of l.loop (fun x => decide (x < z)) k h hb)
  generalize formB l = f at *
  generalize validI z l = r at *
  go_enter Try.func13, Try.ntmps13
  go_wp2
  have hB0 : Below w.heap.size w (w.alloc (Obj.cells #[Value.slice a0 l.stem.length c0, Value.slice a1 l.loop.length c1] 24)) := bel_box _
  have cA : (w.alloc (Obj.cells #[Value.slice a0 l.stem.length c0, Value.slice a1 l.loop.length c1] 24)).cell? ⟨w.heap.size, 0, none⟩ = some (Value.slice a0 l.stem.length c0) := boxCell 0 (Below.refl _ _) rfl
  have cB : (w.alloc (Obj.cells #[Value.slice a0 l.stem.length c0, Value.slice a1 l.loop.length c1] 24)).cell? ⟨w.heap.size, 1, none⟩ = some (Value.slice a1 l.loop.length c1) := boxCell 1 (Below.refl _ _) rfl
  generalize (w.alloc (Obj.cells #[Value.slice a0 l.stem.length c0, Value.slice a1 l.loop.length c1] 24)) = w1 at *
  go_loop [5] (fun i => ∃ k : Nat, i = .int .i64 k ∧ k ≤ l.stem.length ∧ Hid (ltB z (l.stem.take k) = true)) (fun i => l.stem.length - (intOf i).toNat)
  case atStart => exact ⟨0, rfl, by omega, by show _ = _; simp [ltB]⟩
  case round =>
    obtain ⟨k, rfl, hk, HA⟩ := hrel
    by_cases hlt : k < l.stem.length
    · obtain rfl := g0.ad (by omega)
      have e1 := cellB hB0 (g0.el k hlt)
      unfold ivF at e1
      rw [getD_lt _ _ _ hlt] at e1
      have HS := Lib.hid (all_take_succ l.stem (fun x => decide (x < z)) k hlt)
      have HF0 := Lib.hid (HS0.out k hlt)
      generalize l.stem[k] = x at *
      by_cases hx : z ≤ x
      · have HX : Hid (ltB z l.stem = false) := HF0.out (by simp; omega)
        go_wp2
        go_ret
        exact ⟨ret_bool (by rw [HR.out, HX.out]; rfl), hB0⟩
      · have HT : Hid (ltB z (l.stem.take (k + 1)) = true) := by show _ = _; unfold ltB; rw [HS.out]; have := HA.out; unfold ltB at this; rw [this]; simp; omega
        go_wp2
        go_round
        case rel => exact ⟨k + 1, by go_num, by omega, HT⟩
        case measure => simp [intOf]; omega
    · obtain rfl : k = l.stem.length := by omega
      have HT : Hid (ltB z l.stem = true) := by
        show _ = _
        have := HA.out
        rwa [List.take_length] at this
      clear HA hk hlt
      go_wp2
      go_loop [6] (fun i => ∃ k : Nat, i = .int .i64 k ∧ k ≤ l.loop.length ∧ Hid (ltB z (l.loop.take k) = true)) (fun i => l.loop.length - (intOf i).toNat)
      case atStart => exact ⟨0, rfl, by omega, by show _ = _; simp [ltB]⟩
      case round =>
        obtain ⟨k, rfl, hk, HA⟩ := hrel
        by_cases hlt : k < l.loop.length
        · obtain rfl := g1.ad (by omega)
          have e1 := cellB hB0 (g1.el k hlt)
          unfold ivF at e1
          rw [getD_lt _ _ _ hlt] at e1
          have HS := Lib.hid (all_take_succ l.loop (fun x => decide (x < z)) k hlt)
          have HF0 := Lib.hid (HS1.out k hlt)
          generalize l.loop[k] = x at *
          by_cases hx : z ≤ x
          · have HX : Hid (ltB z l.loop = false) := HF0.out (by simp; omega)
            go_wp2
            go_ret
            exact ⟨ret_bool (by rw [HR.out, HX.out, Bool.and_false]; rfl), hB0⟩
          · have HT : Hid (ltB z (l.loop.take (k + 1)) = true) := by show _ = _; unfold ltB; rw [HS.out]; have := HA.out; unfold ltB at this; rw [this]; simp; omega
            go_wp2
            go_round
            case rel => exact ⟨k + 1, by go_num, by omega, HT⟩
            case measure => simp [intOf]; omega
        · obtain rfl : k = l.loop.length := by omega
          have HT2 : Hid (ltB z l.loop = true) := by
            show _ = _
            have := HA.out
            rwa [List.take_length] at this
          go_wp2_with fail
          refine (HF.out _ hB0).mono ?_
          rintro e w2 ⟨rfl, hb2⟩
          go_wp2
          go_ret
          exact ⟨ret_bool (by rw [HR.out, HT.out, HT2.out]; rfl), hB0.trans (hb2.mono hB0.size)⟩

end Go.Proofs.Ytgjpdnaeldpdeaa
