/- What the reference's Prefix computes. -/
import Derived.Test.YtgjpdnaeldpdeaaWd30
import Derived.Test.YtgjpdnaeldpdeaaWd11
namespace Go.Proofs.Ytgjpdnaeldpdeaa
open Go.RowKit

theorem prefixL_letters {l : Ls} (hf : formB l = true) (n : Nat) : ∀ x ∈ prefixL l n, I64 x := fun x hx => by
  obtain ⟨j, _, rfl⟩ := List.mem_map.1 hx
  exact letB_I64 ((letters_iff (form_pos hf)).1 ⟨((formB_iff l).1 hf).2.2.2.1, ((formB_iff l).1 hf).2.2.2.2⟩ j)

set_option maxHeartbeats 4000000 in
theorem RPrefix_c (w : World) (v : Value) (l : Ls) (i : Int) (hl : IsLs w v l) (hi : I64 i) :
    Calls Try.prog 18 #[v, .int .i64 i] w (NewN (prefixI l i) w) := by
  have HF := Lib.hid (fun (W : World) (hW : Below w.heap.size w W) => RFormed_c W v l (hl.below hW))
  unfold I64 at hi
  by_cases hno : i < 1 ∨ 500 < i ∨ formB l = false
  · have HR : Hid (∀ W, NewN (prefixI l i) w (.returned (.slice none 0 0)) W ↔ Below w.heap.size w W) := fun W => by
      have : prefixI l i = [] := if_neg (by
        rintro ⟨h1, h2, h3⟩
        rcases hno with h | h | h
        · omega
        · omega
        · rw [h] at h3; cases h3)
      rw [this]
      exact ⟨fun ⟨_, _, _, h⟩ => h, fun h => ⟨_, rfl, ints_nil _, h⟩⟩
    generalize prefixI l i = r at *
    obtain ⟨v0, v1, rfl, h0, h1⟩ := hl
    obtain ⟨⟨a0, c0, b0, o0, rfl, g0⟩, -⟩ := h0
    obtain ⟨⟨a1, c1, b1, o1, rfl, g1⟩, -⟩ := h1
    clear g0 g1
    by_cases h1 : i < 1
    · have d1 : decide ((0 : Int) < i) = false := decide_eq_false (by omega)
      clear hno
      go_enter Try.func18, Try.ntmps18
      go_wp2
      refine wp_loop_rounds 1 ?_
      rw [rounds_succ]
      go_wp2
      go_ret
      exact (HR.out _).2 (by repeat (first | exact Below.refl _ _ | assumption | (refine belA ?_ _) | (refine belD ?_ _)))
    · have d1 : decide ((0 : Int) < i) = true := decide_eq_true (by omega)
      by_cases h2 : 500 < i
      · have d2 : decide (i ≤ 500) = false := decide_eq_false (by omega)
        clear hno
        go_enter Try.func18, Try.ntmps18
        go_wp2
        refine wp_loop_rounds 1 ?_
        rw [rounds_succ]
        go_wp2
        go_ret
        exact (HR.out _).2 (by repeat (first | exact Below.refl _ _ | assumption | (refine belA ?_ _) | (refine belD ?_ _)))
      · have d2 : decide (i ≤ 500) = true := decide_eq_true (by omega)
        have hf : formB l = false := by rcases hno with h | h | h; exact absurd h h1; exact absurd h h2; exact h
        rw [hf] at HF
        clear hno hf
        go_enter Try.func18, Try.ntmps18
        go_wp2
        refine wp_loop_rounds 1 ?_
        rw [rounds_succ]
        go_wp2_with fail
        refine (HF.out _ (by repeat (first | exact Below.refl _ _ | assumption | (refine belA ?_ _) | (refine belD ?_ _)))).mono ?_
        rintro e w2 ⟨rfl, hb2⟩
        go_wp2
        go_ret
        exact (HR.out _).2 ((bel_box _).trans (hb2.mono (by simp)))
  · have hn1 : 1 ≤ i := by omega
    have hn2 : i ≤ 500 := by omega
    have hf : formB l = true := by
      cases h : formB l with
      | true => rfl
      | false => exact absurd (.inr (.inr h)) hno
    obtain ⟨n, rfl⟩ : ∃ n : Nat, i = n := ⟨i.toNat, by omega⟩
    have HAt := Lib.hid (fun (W : World) (hW : Below w.heap.size w W) (k : Nat) (hk : k ≤ n) => Rat_c W v l k (hl.below hW) (form_pos hf) (by unfold I64; omega))
    have HI := Lib.hid (prefixL_letters hf n)
    rw [prefixI_nat hf (by omega) (by omega)]
    rw [hf] at HF
    obtain ⟨v0, v1, rfl, h0, h1⟩ := hl
    obtain ⟨⟨a0, c0, b0, o0, rfl, g0⟩, -⟩ := h0
    obtain ⟨⟨a1, c1, b1, o1, rfl, g1⟩, -⟩ := h1
    clear g0 g1 hf hno
    have d2 : decide ((n : Int) ≤ 500) = true := decide_eq_true hn2
    have d3 : decide (n ≤ 500) = true := decide_eq_true (by omega)
    go_enter Try.func18, Try.ntmps18
    go_wp2
    have hB0 : Below w.heap.size w (w.alloc (Obj.cells #[Value.slice a0 l.stem.length c0, Value.slice a1 l.loop.length c1] 24)) := bel_box _
    have cA : (w.alloc (Obj.cells #[Value.slice a0 l.stem.length c0, Value.slice a1 l.loop.length c1] 24)).heap[w.heap.size]? = some (Obj.cells #[Value.slice a0 l.stem.length c0, Value.slice a1 l.loop.length c1] 24 (0, 0)) := heap_alloc_new _ _
    generalize (w.alloc (Obj.cells #[Value.slice a0 l.stem.length c0, Value.slice a1 l.loop.length c1] 24)) = w1 at *
    go_loopg [5, 6] n (fun gh s i wr => ∃ k : Nat, gh = n - k ∧ i = .int .i64 k ∧ k ≤ n ∧ Hid (OI wr w1.heap.size s (prefixL l k)) ∧ Below w1.heap.size w1 wr)
    case atStart => exact ⟨0, by omega, rfl, by omega, OI_nil _ _, Below.refl _ _⟩
    case round =>
      obtain ⟨k, rfl, rfl, hk, HO, hb⟩ := hrel
      have hB := hB0.trans (hb.mono hB0.size)
      have rA := (hb.block _ (Array.getElem?_eq_some_iff.1 cA).1).trans cA
      obtain ⟨k0, k1, -, -⟩ := boxF rA
      clear rA
      by_cases hlt : k < n
      · have d1 : decide (k < n) = true := decide_eq_true hlt
        go_wp2_with fail
        refine (HF.out _ hB).mono ?_
        rintro e w2 ⟨rfl, hb2⟩
        have k0 := cellB hb2 k0
        have k1 := cellB hb2 k1
        have hB2 := hB.trans (hb2.mono hB.size)
        have hc2 := hb.trans (hb2.mono hb.size)
        have HO2 := Lib.hid (HO.out.below hb2)
        go_wp2_with fail
        refine (HAt.out _ hB2 k (by omega)).mono ?_
        rintro e w3 ⟨rfl, hb3⟩
        have hc3 := hc2.trans (hb3.mono hc2.size)
        have HO3 := Lib.hid (HO2.out.below hb3)
        have HS := Lib.hid (prefixL_succ l k)
        have HL := Lib.hid (prefixL_len l k)
        have hz := hc3.size
        clear hb2 hb3 k0 k1 hc2
        generalize atL l k = x at *
        go_wp2_with (at_builtin; refine app_int rfl _ _ x rfl w1.heap.size _ _ HO3.out rfl _ (by simp) rfl (by rw [HL.out]; omega) hz ?_; intro v' w' hown' hg hmv; have HO4 := Lib.hid hown'; have HC4 := Lib.hid (hc3.grown hg hz (fun g h => HO3.out.ge g h)); clear hown' hg hmv)
        go_roundg (n - (k + 1))
        case rel => exact ⟨k + 1, by omega, by go_num, by omega, by rw [HS.out]; exact HO4, HC4.out⟩
        case measure => omega
      · obtain rfl : k = n := by omega
        have HL := Lib.hid (prefixL_len l k)
        go_wp2
        go_ret
        exact ⟨_, rfl, HO.out.is (by rw [HL.out]; unfold maxN; omega) HI.out, hB⟩

end Go.Proofs.Ytgjpdnaeldpdeaa
