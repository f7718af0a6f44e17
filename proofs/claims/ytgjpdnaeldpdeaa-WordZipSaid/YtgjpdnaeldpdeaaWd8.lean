/- What pick, at, turned, period compute. -/
import Derived.Test.YtgjpdnaeldpdeaaWd7
namespace Go.Proofs.Ytgjpdnaeldpdeaa
open Go.RowKit

theorem atL_small {l : Ls} {i : Nat} (h : i < l.stem.length) : atL l i = l.stem[i] := by rw [atL_stem h]; exact getD_lt _ _ _ h
theorem atL_big {l : Ls} {i : Nat} (h : l.stem.length ≤ i) (hm : (i - l.stem.length) % l.loop.length < l.loop.length) : atL l i = l.loop[(i - l.stem.length) % l.loop.length] := by
  unfold atL
  rw [if_neg (by omega)]
  exact getD_lt _ _ _ hm

set_option maxHeartbeats 2000000 in
theorem pick_c (w : World) (v : Value) (l : Ls) (i : Nat) (hl : IsLs w v l) (hp : 0 < l.loop.length) (hi : I64 i) :
    Calls Try.prog 36 #[v, .int .i64 (i : Int)] w (Calm (.int .i64 (atL l i)) w) := by
  obtain ⟨v0, v1, rfl, h0, h1⟩ := hl
  obtain ⟨⟨a0, c0, b0, o0, rfl, g0⟩, -⟩ := h0
  obtain ⟨⟨a1, c1, b1, o1, rfl, g1⟩, -⟩ := h1
  have hn0 := g0.nb
  have hn1 := g1.nb
  unfold I64 at hi
  have hB0 : Below w.heap.size w (w.alloc (Obj.cells #[Value.slice a0 l.stem.length c0, Value.slice a1 l.loop.length c1] 24)) := bel_box _
  by_cases hlt : i < l.stem.length
  · obtain rfl := g0.ad (by omega)
    have e1 := cellB hB0 (g0.el i hlt)
    unfold ivF at e1
    rw [getD_lt _ _ _ hlt] at e1
    have HR := Lib.hid (atL_small hlt)
    generalize l.stem[i] = x at *
    go_enter Try.func36, Try.ntmps36
    go_wp2
    go_ret
    exact ⟨ret_int HR.out.symm, hB0⟩
  · have hm := Nat.mod_lt (i - l.stem.length) hp
    obtain rfl := g1.ad hp
    have e1 := cellB hB0 (g1.el _ hm)
    unfold ivF at e1
    rw [getD_lt _ _ _ hm] at e1
    have HR := Lib.hid (atL_big (by omega) hm)
    have hw1 : IntKind.i64.wrap ((i : Int) - l.stem.length) = ((i - l.stem.length : Nat) : Int) := by rw [IntWalk.i64_in _ ⟨by omega, by omega⟩]; omega
    have ht : ((i - l.stem.length : Nat) : Int).tmod (l.loop.length : Int) = (((i - l.stem.length) % l.loop.length : Nat) : Int) := by rw [Int.tmod_eq_emod_of_nonneg (by omega)]; omega
    have hz : ¬ (l.loop.length : Int) = 0 := by omega
    have hw2 : IntKind.i64.wrap (((i - l.stem.length) % l.loop.length : Nat) : Int) = (((i - l.stem.length) % l.loop.length : Nat) : Int) := IntWalk.i64_in _ ⟨by omega, by omega⟩
    generalize (i - l.stem.length) % l.loop.length = q at *
    generalize l.loop[q] = x at *
    generalize i - l.stem.length = d at *
    go_enter Try.func36, Try.ntmps36
    go_wp2
    have cA : (w.alloc (Obj.cells #[Value.slice a0 l.stem.length c0, Value.slice (some ⟨b1, o1, none⟩) l.loop.length c1] 24)).cell? ⟨w.heap.size, 0, none⟩ = some (Value.slice a0 l.stem.length c0) := boxCell 0 (Below.refl _ _) rfl
    have cB : (w.alloc (Obj.cells #[Value.slice a0 l.stem.length c0, Value.slice (some ⟨b1, o1, none⟩) l.loop.length c1] 24)).cell? ⟨w.heap.size, 1, none⟩ = some (Value.slice (some ⟨b1, o1, none⟩) l.loop.length c1) := boxCell 1 (Below.refl _ _) rfl
    generalize (w.alloc (Obj.cells #[Value.slice a0 l.stem.length c0, Value.slice (some ⟨b1, o1, none⟩) l.loop.length c1] 24)) = w1 at *
    go_quiet (fail)
    go_wp2
    go_ret
    exact ⟨ret_int HR.out.symm, belD hB0 _⟩

set_option maxHeartbeats 2000000 in
theorem Rat_c (w : World) (v : Value) (l : Ls) (i : Nat) (hl : IsLs w v l) (hp : 0 < l.loop.length) (hi : I64 i) :
    Calls Try.prog 37 #[v, .int .i64 (i : Int)] w (Calm (.int .i64 (atL l i)) w) := by
  obtain ⟨v0, v1, rfl, h0, h1⟩ := hl
  obtain ⟨⟨a0, c0, b0, o0, rfl, g0⟩, -⟩ := h0
  obtain ⟨⟨a1, c1, b1, o1, rfl, g1⟩, -⟩ := h1
  have hn0 := g0.nb
  have hn1 := g1.nb
  unfold I64 at hi
  have hB0 : Below w.heap.size w (w.alloc (Obj.cells #[Value.slice a0 l.stem.length c0, Value.slice a1 l.loop.length c1] 24)) := bel_box _
  by_cases hlt : i < l.stem.length
  · obtain rfl := g0.ad (by omega)
    have e1 := cellB hB0 (g0.el i hlt)
    unfold ivF at e1
    rw [getD_lt _ _ _ hlt] at e1
    have HR := Lib.hid (atL_small hlt)
    generalize l.stem[i] = x at *
    go_enter Try.func37, Try.ntmps37
    go_wp2
    go_ret
    exact ⟨ret_int HR.out.symm, hB0⟩
  · have hm := Nat.mod_lt (i - l.stem.length) hp
    obtain rfl := g1.ad hp
    have e1 := cellB hB0 (g1.el _ hm)
    unfold ivF at e1
    rw [getD_lt _ _ _ hm] at e1
    have HR := Lib.hid (atL_big (by omega) hm)
    have hw1 : IntKind.i64.wrap ((i : Int) - l.stem.length) = ((i - l.stem.length : Nat) : Int) := by rw [IntWalk.i64_in _ ⟨by omega, by omega⟩]; omega
    have ht : ((i - l.stem.length : Nat) : Int).tmod (l.loop.length : Int) = (((i - l.stem.length) % l.loop.length : Nat) : Int) := by rw [Int.tmod_eq_emod_of_nonneg (by omega)]; omega
    have hz : ¬ (l.loop.length : Int) = 0 := by omega
    have hw2 : IntKind.i64.wrap (((i - l.stem.length) % l.loop.length : Nat) : Int) = (((i - l.stem.length) % l.loop.length : Nat) : Int) := IntWalk.i64_in _ ⟨by omega, by omega⟩
    generalize (i - l.stem.length) % l.loop.length = q at *
    generalize l.loop[q] = x at *
    generalize i - l.stem.length = d at *
    go_enter Try.func37, Try.ntmps37
    go_wp2
    have cA : (w.alloc (Obj.cells #[Value.slice a0 l.stem.length c0, Value.slice (some ⟨b1, o1, none⟩) l.loop.length c1] 24)).cell? ⟨w.heap.size, 0, none⟩ = some (Value.slice a0 l.stem.length c0) := boxCell 0 (Below.refl _ _) rfl
    have cB : (w.alloc (Obj.cells #[Value.slice a0 l.stem.length c0, Value.slice (some ⟨b1, o1, none⟩) l.loop.length c1] 24)).cell? ⟨w.heap.size, 1, none⟩ = some (Value.slice (some ⟨b1, o1, none⟩) l.loop.length c1) := boxCell 1 (Below.refl _ _) rfl
    generalize (w.alloc (Obj.cells #[Value.slice a0 l.stem.length c0, Value.slice (some ⟨b1, o1, none⟩) l.loop.length c1] 24)) = w1 at *
    go_quiet (fail)
    go_wp2
    go_ret
    exact ⟨ret_int HR.out.symm, belD hB0 _⟩


end Go.Proofs.Ytgjpdnaeldpdeaa
