/- What an argument reads as: sets, numbers, rows, games, out of the row's own reading and reach. Data that lay below stay readable behind a call that writes new memory alone. -/
import Derived.ProofKit
import Derived.Lib.SmallJoins
import Derived.Deep.Matrix
import Derived.Deep.Grids
import Derived.SizedLaws
import Derived.OpenShut
import Derived.Test.YtijkjhcigdfdgaaQBase
namespace Go.Proofs.Ytijkjhcigdfdgaa
open Go.ChangeShapes Go.WideShapes Go.ChangeAt Go.RowKit Go.Joins Go.Deep

theorem bytes_int : Try.prog.bytesOf 3 = 8 := by kernel_rfl
theorem bytes_bool : Try.prog.bytesOf 4 = 1 := by kernel_rfl
theorem bytes_ints : Try.prog.bytesOf 22 = 24 := by kernel_rfl
theorem cells_int : Try.prog.cellsOf 3 = 1 := by kernel_rfl
theorem cells_bool : Try.prog.cellsOf 4 = 1 := by kernel_rfl
theorem cells_ints : Try.prog.cellsOf 22 = 1 := by kernel_rfl
theorem cells_game : Try.prog.cellsOf 25 = 3 := by kernel_rfl

section
variable {H : Type} {enc : TypeId × Value → H} {W : World}

theorem addr_cells {w : World} {a : Addr} {n : Nat} {f : Nat → Value} (h : ∀ i, i < n → w.cell? (a.add i) = some (f i)) : (0 < n → some a = some ⟨a.block, a.off, none⟩) ∧ ∀ i, i < n → w.cell? ⟨a.block, a.off + i, none⟩ = some (f i) := by
  have hs : 0 < n → a.spot = none := fun h0 => by
    have h1 := h 0 h0
    have e : a.add 0 = a := by simp [Addr.add]
    rw [e] at h1
    unfold World.cell? at h1
    split at h1
    · cases hsp : a.spot with
      | none => rfl
      | some x => rw [hsp] at h1; simp at h1
    · cases h1
  refine ⟨fun h0 => by rw [show a = ⟨a.block, a.off, a.spot⟩ from rfl, hs h0], fun i hi => ?_⟩
  have h1 := h i hi
  unfold Addr.add at h1
  split at h1
  · rename_i e
    subst e
    have e2 : a = ⟨a.block, a.off + 0, none⟩ := by
      have := hs hi
      cases a; simp at this; simp [this]
    rw [← e2]; exact h1
  · exact h1

theorem wf_i64 {n : Int} (h : (Lit.int .i64 n).wf = true) : I64 n := by
  have := bounds_i64 h
  unfold I64
  omega

theorem read_ints {t : TypeId} {fuel : Nat} {v : Value} {x : DataW H × List MemPlace} (ht : Try.prog.underlying t = some (.slice 3)) (h : DataW.trod enc Try.prog W 0 (fun _ => true) true fuel t [v] = some x)
    (hr : ∀ n ∈ x.1.weights Try.prog t, n ≤ reachBytes) : ∃ l, IsInts W v l := by
  rcases open_ints ht Try.underlying3 cells_int h with ⟨hcs, _⟩ | ⟨a, len, cap, zs, hcs, _, hl, hm, hz, hx, hcell, hwz⟩
  · simp at hcs
    subst hcs
    exact ⟨[], ⟨none, 0, 0, 0, rfl, Nat.le_refl _, Nat.zero_le _, Nat.zero_le _, fun _ => rfl, (fun h => absurd h (by simp)), fun j hj => absurd hj (by simp)⟩, by simp⟩
  · simp at hcs
    subst hcs
    simp only [if_true] at hz
    have hw := hr ((zs.take len).length * 8 + (zs.drop len).length * 8) (by rw [hx]; simp [DataW.weights, ht, bytes_int, lits]; omega)
    have hlen : (zs.take len).length = len := by simp; omega
    have hreach : reachBytes = 140737488351232 := rfl
    obtain ⟨h1, h2⟩ := addr_cells (f := fun i => .int .i64 (zs.getD i 0)) hcell
    refine ⟨zs.take len, ⟨some a, cap, a.block, a.off, by rw [hlen], by omega, hm, by simp only [maxN]; omega, (fun h => by cases h), fun h0 => h1 (by omega), fun j hj => ?_⟩, fun n hn => wf_i64 (hwz n (List.mem_of_mem_take hn))⟩
    rw [h2 j (by omega)]
    simp [ivF, List.getD, show j < len from by omega]

theorem read_bools {t : TypeId} {fuel : Nat} {v : Value} {x : DataW H × List MemPlace} (ht : Try.prog.underlying t = some (.slice 4)) (h : DataW.trod enc Try.prog W 0 (fun _ => true) true fuel t [v] = some x)
    (hr : ∀ n ∈ x.1.weights Try.prog t, n ≤ reachBytes) : ∃ l, IsBools W v l := by
  rcases open_bools ht Try.underlying4 cells_bool h with ⟨hcs, _⟩ | ⟨a, len, cap, B, hcs, _, hl, hm, hx, hcell⟩
  · simp at hcs
    subst hcs
    exact ⟨[], ⟨none, 0, 0, 0, rfl, Nat.le_refl _, Nat.zero_le _, Nat.zero_le _, fun _ => rfl, (fun h => absurd h (by simp)), fun j hj => absurd hj (by simp)⟩⟩
  · simp at hcs
    subst hcs
    have hw := hr cap (by rw [hx]; simp [DataW.weights, boolRow, ht, bytes_bool]; omega)
    have hreach : reachBytes = 140737488351232 := rfl
    obtain ⟨h1, h2⟩ := addr_cells (f := fun i => .bool (B i)) hcell
    refine ⟨(List.range len).map B, ⟨some a, cap, a.block, a.off, by simp, by simpa using hl, hm, by simp only [maxN, List.length_map, List.length_range]; omega, (fun h => by cases h), fun h0 => h1 (by simp at h0; omega), fun j hj => ?_⟩⟩
    have hj' : j < len := by simpa using hj
    rw [h2 j (by omega)]
    simp [bvF, List.getD, hj']

theorem weightsAll_mem' {P : Program} {e : TypeId} : ∀ {l : List (DataW H)} {d : DataW H}, d ∈ l → ∀ n ∈ d.weights P e, n ∈ DataW.weightsAll P e l
  | d' :: r, d, hd, n, hn => by
    simp only [DataW.weightsAll, List.mem_append]
    rcases List.mem_cons.1 hd with rfl | h
    · exact Or.inl hn
    · exact Or.inr (weightsAll_mem' h n hn)

theorem read_rows {t : TypeId} {fuel : Nat} {v : Value} {x : DataW H × List MemPlace} (ht : Try.prog.underlying t = some (.slice 22)) (h : DataW.trod enc Try.prog W 0 (fun _ => true) true fuel t [v] = some x)
    (hr : ∀ n ∈ x.1.weights Try.prog t, n ≤ reachBytes) : ∃ l, IsRows W v l := by
  have hreach : reachBytes = 140737488351232 := rfl
  rcases open_int_rows ht Try.underlying22 Try.underlying3 cells_ints cells_int h with ⟨hcs, _⟩ | ⟨a, len, cap, A, L, C, Z, hcs, _, hl, hm, hx, hrow⟩
  · simp at hcs
    subst hcs
    exact ⟨[], fun _ => undef, ⟨none, 0, 0, 0, rfl, Nat.le_refl _, Nat.zero_le _, Nat.zero_le _, fun _ => rfl, (fun h => absurd h (by simp)), fun j hj => absurd hj (by simp)⟩, fun j hj => absurd hj (by simp)⟩
  · simp at hcs
    subst hcs
    have hw := hr (cap * 24) (by rw [hx]; simp [DataW.weights, ht, bytes_ints]; left; congr 1; omega)
    obtain ⟨h1, h2⟩ := addr_cells (f := fun i => .slice (A i) (L i) (C i)) (fun i hi => (hrow i hi).1)
    refine ⟨(List.range len).map fun r => (Z r).take (L r), fun j => .slice (A j) (L j) (C j), ⟨some a, cap, a.block, a.off, by simp, by simpa using hl, hm, by simp only [maxN, List.length_map, List.length_range]; omega, (fun h => by cases h), fun h0 => h1 (by simp at h0; omega), fun j hj => h2 j (by simp at hj; omega)⟩, fun j hj => ?_⟩
    have hj' : j < len := by simpa using hj
    have e : ((List.range len).map fun r => (Z r).take (L r)).getD j [] = (Z j).take (L j) := by simp [List.getD, hj']
    rw [e]
    obtain ⟨_, r1, r2, r3, r4, r5, r6⟩ := hrow j (by omega)
    have hlen : ((Z j).take (L j)).length = L j := by simp; omega
    cases hA : A j with
    | none =>
      have hc0 := r5 hA
      have hl0 : L j = 0 := by omega
      have hz0 : (Z j).take (L j) = [] := by rw [hl0]; rfl
      rw [hz0]
      show IsInts W (.slice (A j) (L j) (C j)) []
      rw [hA, hl0, hc0]
      exact ⟨⟨none, 0, 0, 0, rfl, Nat.le_refl _, Nat.zero_le _, Nat.zero_le _, fun _ => rfl, (fun h => absurd h (by simp)), fun j hj => absurd hj (by simp)⟩, by simp⟩
    | some a' =>
      obtain ⟨_, hcell⟩ := r6 a' hA
      have hw2 := hr (C j * 8) (by
        rw [hx]
        simp only [DataW.weights, ht, List.mem_cons, List.mem_append]
        refine .inr (.inl (weightsAll_mem' (d := intRow .i64 (A j) (L j) (Z j)) (List.mem_map.2 ⟨j, List.mem_range.2 hj', rfl⟩) _ ?_))
        rw [hA]
        simp [intRow, DataW.weights, Try.underlying22, bytes_int, lits]
        left; congr 1; omega)
      obtain ⟨g1, g2⟩ := addr_cells (f := fun i => .int .i64 ((Z j).getD i 0)) hcell
      refine ⟨⟨some a', C j, a'.block, a'.off, (by show Value.slice (A j) (L j) (C j) = _; rw [hA, hlen]), by omega, r2, by simp only [maxN]; omega, (fun h => by cases h), fun h0 => g1 (by omega), fun i hi => ?_⟩, fun n hn => wf_i64 (r4 n (List.mem_of_mem_take hn))⟩
      rw [g2 i (by omega)]
      simp [ivF, List.getD, show i < L j from by omega]

theorem read_game {base : Nat} {v : Value} {d : DataW H} {p : List MemPlace} (hv : Value.okWide Try.prog W .any base 25 v) (h : DataW.Trod enc Try.prog W 0 (fun _ => true) true 25 v d p)
    (hr : ∀ n ∈ d.weights Try.prog 25, n ≤ reachBytes) : ∃ g, IsGame W v g := by
  obtain ⟨v0, v1, v2, y0, y1, y2, n, rfl, rfl, rfl, h0, h1, h2⟩ := open_agg3 Try.underlying25 (by kernel_rfl) cells_game hv h
  have hw : ∀ n ∈ DataW.weightsEach Try.prog [22, 22, 23] [y0.1, y1.1, y2.1], n ≤ reachBytes := fun n hn => hr n (by simp only [DataW.weights, Try.underlying25]; exact hn)
  obtain ⟨l0, r0⟩ := read_ints Try.underlying22 h0 (fun n hn => hw n (DataW.weights_mem_each (j := 0) rfl rfl n hn))
  obtain ⟨l1, r1⟩ := read_ints Try.underlying22 h1 (fun n hn => hw n (DataW.weights_mem_each (j := 1) rfl rfl n hn))
  obtain ⟨l2, r2⟩ := read_rows Try.underlying23 h2 (fun n hn => hw n (DataW.weights_mem_each (j := 2) rfl rfl n hn))
  exact ⟨⟨l0, l1, l2⟩, v0, v1, v2, rfl, r0, r1, r2⟩

end
/-- What is known of a byte. -/
theorem wf_u8 {n : Int} (h : (Lit.int .u8 n).wf = true) : 0 ≤ n ∧ n ≤ 255 := by
  have := bounds_u8 h
  omega

end Go.Proofs.Ytijkjhcigdfdgaa

namespace Go.Proofs.Ytijkjhcigdfdgaa
open Go.ChangeShapes Go.WideShapes Go.ChangeAt Go.RowKit Go.Joins Go.Deep

theorem stays_all {H : Type} {enc : TypeId × Value → H} {W W' : World} (hl : laidOutB Try.prog = true) {ts : List TypeId} (hts : (ts.all fun t => Try.prog.readableRec t && decide (t < Try.prog.types.size)) = true) :
    ∀ {vs : List Value} {ds : List (DataW H)} {ps : List MemPlace}, DataW.TrodAll enc Try.prog W 0 (fun _ => true) true ts vs ds ps → Below W.heap.size W W' → (∀ x ∈ ps, x.block < W.heap.size) →
      DataW.TrodAll enc Try.prog W' 0 (fun b => decide (b < W.heap.size)) true ts vs ds ps := by
  induction ts with
  | nil =>
    intro vs ds ps h hb hlt
    obtain ⟨rfl, rfl, rfl⟩ := trodAll_nil h
    simp [DataW.TrodAll]
  | cons t ts ih =>
    intro vs ds ps h hb hlt
    simp only [List.all_cons, Bool.and_eq_true, decide_eq_true_eq] at hts
    obtain ⟨v, vs', d, ds', p, q, rfl, rfl, rfl, h0, hR⟩ := trodAll_cons h
    exact trodAll_cons_mk (Below.trod hl hts.1.1 hts.1.2 h0 hb (fun x hx => hlt x (by simp [hx]))) (ih hts.2 hR hb (fun x hx => hlt x (by simp [hx])))

end Go.Proofs.Ytijkjhcigdfdgaa
