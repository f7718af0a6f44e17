/- What an argument reads as: numbers, signals, games, automata, lassos, out of the row's own reading and reach; the key words, out of what the row lists. -/
import Derived.Test.YtjadeffdcbchnaaDoorArS
import Derived.Test.YtjadeffdcbchnaaDoorAr3
import Derived.Test.YtjadeffdcbchnaaDoorArW
import Derived.Test.YtjadeffdcbchnaaDoorRows
import Derived.ProofKit
import Derived.Lib.SmallJoins
import Derived.Deep.Matrix
import Derived.Deep.Slices
import Derived.Deep.Grids
import Derived.SizedLaws
import Derived.OpenShut
import Derived.LaidMore
namespace Go.Proofs.YtjadeffdcbchnaaDoor
set_option maxRecDepth 100000
open Go.ChangeShapes Go.WideShapes Go.ChangeAt Go.RowKit Go.Joins Go.Deep

theorem bytes_int : Tryd.prog.bytesOf 3 = 8 := by kernel_rfl
theorem bytes_bool : Tryd.prog.bytesOf 4 = 1 := by kernel_rfl
theorem bytes_ints : Tryd.prog.bytesOf 26 = 24 := by kernel_rfl
theorem bytes_sig : Tryd.prog.bytesOf 68 = 32 := by kernel_rfl
theorem cells_int : Tryd.prog.cellsOf 3 = 1 := by kernel_rfl
theorem cells_bool : Tryd.prog.cellsOf 4 = 1 := by kernel_rfl
theorem cells_ints : Tryd.prog.cellsOf 26 = 1 := by kernel_rfl
theorem cells_game : Tryd.prog.cellsOf 28 = 3 := by kernel_rfl
theorem cells_auto : Tryd.prog.cellsOf 25 = 4 := by kernel_rfl
theorem cells_lasso : Tryd.prog.cellsOf 57 = 2 := by kernel_rfl
theorem cells_string : Tryd.prog.cellsOf 9 = 1 := by kernel_rfl
theorem cells_sig : Tryd.prog.cellsOf 68 = 3 := by kernel_rfl

section
variable {H : Type} {enc : TypeId × Value → H} {W : World}

theorem addr_cells {w : World} {a : Addr} {n : Nat} {f : Nat → Value} (h : ∀ i, i < n → w.cell? (a.add i) = some (f i)) : (0 < n → some a = some ⟨a.block, a.off, none⟩) ∧ ∀ i, i < n → w.cell? ⟨a.block, a.off + i, none⟩ = some (f i) := by
  have hs : 0 < n → a.spot = none := fun h0 => by
    have h1 := h 0 h0
    have e : a.add 0 = a := by simp [Addr.add]
    rw [e] at h1
    unfold World.cell? at h1
    split at h1
    · cases hsp : a.spot with
      | none => rfl
      | some x => rw [hsp] at h1; simp at h1
    · cases h1
  refine ⟨fun h0 => by rw [show a = ⟨a.block, a.off, a.spot⟩ from rfl, hs h0], fun i hi => ?_⟩
  have h1 := h i hi
  unfold Addr.add at h1
  split at h1
  · rename_i e
    subst e
    have e2 : a = ⟨a.block, a.off + 0, none⟩ := by
      have := hs hi
      cases a; simp at this; simp [this]
    rw [← e2]; exact h1
  · exact h1

theorem wf_i64 {n : Int} (h : (Lit.int .i64 n).wf = true) : I64 n := by
  have := bounds_i64 h
  unfold I64
  omega
theorem wf_u8 {n : Int} (h : (Lit.int .u8 n).wf = true) : 0 ≤ n ∧ n ≤ 255 := by
  have := bounds_u8 h
  omega

theorem read_ints {t : TypeId} {fuel : Nat} {v : Value} {x : DataW H × List MemPlace} (ht : Tryd.prog.underlying t = some (.slice 3)) (h : DataW.trod enc Tryd.prog W 0 (fun _ => true) true fuel t [v] = some x)
    (hr : ∀ n ∈ x.1.weights Tryd.prog t, n ≤ reachBytes) : ∃ l, IsInts W v l := by
  rcases open_ints ht Tryd.underlying3 cells_int h with ⟨hcs, _⟩ | ⟨a, len, cap, zs, hcs, _, hl, hm, hz, hx, hcell, hwz⟩
  · simp at hcs
    subst hcs
    exact ⟨[], ⟨none, 0, 0, 0, rfl, Nat.le_refl _, Nat.zero_le _, Nat.zero_le _, fun _ => rfl, (fun h => absurd h (by simp)), fun j hj => absurd hj (by simp)⟩, by simp⟩
  · simp at hcs
    subst hcs
    simp only [if_true] at hz
    have hw := hr ((zs.take len).length * 8 + (zs.drop len).length * 8) (by rw [hx]; simp [DataW.weights, ht, bytes_int, lits]; omega)
    have hlen : (zs.take len).length = len := by simp; omega
    have hreach : reachBytes = 140737488351232 := rfl
    obtain ⟨h1, h2⟩ := addr_cells (f := fun i => .int .i64 (zs.getD i 0)) hcell
    refine ⟨zs.take len, ⟨some a, cap, a.block, a.off, by rw [hlen], by omega, hm, by simp only [maxN]; omega, (fun h => by cases h), fun h0 => h1 (by omega), fun j hj => ?_⟩, fun n hn => wf_i64 (hwz n (List.mem_of_mem_take hn))⟩
    rw [h2 j (by omega)]
    simp [ivF, List.getD, show j < len from by omega]

theorem weightsAll_mem' {P : Program} {e : TypeId} : ∀ {l : List (DataW H)} {d : DataW H}, d ∈ l → ∀ n ∈ d.weights P e, n ∈ DataW.weightsAll P e l
  | d' :: r, d, hd, n, hn => by
    simp only [DataW.weightsAll, List.mem_append]
    rcases List.mem_cons.1 hd with rfl | h
    · exact Or.inl hn
    · exact Or.inr (weightsAll_mem' h n hn)

instance : Inhabited Sig := ⟨sig0⟩

/-- One signal, out of its three cells. -/
theorem read_sig {fuel : Nat} {cs : List Value} {x : DataW H × List MemPlace} (h : DataW.trod enc Tryd.prog W 0 (fun _ => true) true fuel 68 cs = some x) :
    ∃ s : Sig, cs = [.string s.name, .bool s.inp, .int .i64 s.size] ∧ I64 s.size ∧ s.name.data.toList.length ∈ x.1.weights Tryd.prog 68 := by
  obtain ⟨xs, n, _, hx, hlen, hxl, hf⟩ := DataW.trod_struct Tryd.underlying68 h
  rw [cells_sig] at hlen
  obtain ⟨c0, c1, c2, rfl⟩ : ∃ c0 c1 c2, cs = [c0, c1, c2] := by
    match cs, hlen with
    | [a, b, c], _ => exact ⟨a, b, c, rfl⟩
  obtain ⟨y0, y1, y2, rfl⟩ : ∃ y0 y1 y2, xs = [y0, y1, y2] := by
    match xs, hxl with
    | [a, b, c], _ => exact ⟨a, b, c, rfl⟩
  have h0 : DataW.trod enc Tryd.prog W 0 (fun _ => true) true n 9 (([c0, c1, c2].drop 0).take (Tryd.prog.cellsOf 9)) = some y0 := hf 0 _ rfl
  have h1 : DataW.trod enc Tryd.prog W 0 (fun _ => true) true n 4 (([c0, c1, c2].drop 1).take (Tryd.prog.cellsOf 4)) = some y1 := hf 1 _ rfl
  have h2 : DataW.trod enc Tryd.prog W 0 (fun _ => true) true n 3 (([c0, c1, c2].drop 2).take (Tryd.prog.cellsOf 3)) = some y2 := hf 2 _ rfl
  rw [cells_string] at h0
  rw [cells_bool] at h1
  rw [cells_int] at h2
  obtain ⟨s, e0, hy0, _⟩ := DataW.trod_string Tryd.underlying9 (show DataW.trod enc Tryd.prog W 0 (fun _ => true) true n 9 [c0] = some y0 from h0)
  obtain ⟨b, e1, hy1⟩ := DataW.trod_bool Tryd.underlying4 (show DataW.trod enc Tryd.prog W 0 (fun _ => true) true n 4 [c1] = some y1 from h1)
  obtain ⟨z, e2, hy2, wz⟩ := DataW.trod_int Tryd.underlying3 (show DataW.trod enc Tryd.prog W 0 (fun _ => true) true n 3 [c2] = some y2 from h2)
  simp at e0 e1 e2
  subst e0 e1 e2
  refine ⟨⟨s, b, z⟩, rfl, wf_i64 wz, ?_⟩
  rw [hx, hy0]
  simp [DataW.weights, Tryd.underlying68, DataW.weightsEach]

theorem read_sigs {t : TypeId} {fuel : Nat} {v : Value} {x : DataW H × List MemPlace} (ht : Tryd.prog.underlying t = some (.slice 68)) (h : DataW.trod enc Tryd.prog W 0 (fun _ => true) true fuel t [v] = some x)
    (hr : ∀ n ∈ x.1.weights Tryd.prog t, n ≤ reachBytes) : ∃ l, IsSigs W v l := by
  have hreach : reachBytes = 140737488351232 := rfl
  rcases open_slice ht h with ⟨hcs, _⟩ | ⟨a, len, cap, m, n, D, Pl, hcs, _, hl, hm, hmm, hx, hi⟩
  · simp at hcs
    subst hcs
    exact ⟨[], none, 0, 0, 0, rfl, Nat.le_refl _, Nat.zero_le _, Nat.zero_le _, fun h => absurd h (by simp), fun j h => absurd h (by simp), fun j h => absurd h (by simp), fun j h => absurd h (by simp), by simp, by simp⟩
  · simp at hcs
    subst hcs
    simp only [if_true] at hmm
    subst hmm
    have hw := hr ((len + (m - len)) * 32) (by rw [hx]; simp [DataW.weights, ht, bytes_sig])
    obtain ⟨S, hS⟩ := choose_lt (α := Sig) (p := fun i s => (∀ j, j < 3 → W.cell? (a.add (i * 3 + j)) = ([Value.string s.name, .bool s.inp, .int .i64 s.size] : List Value)[j]?) ∧ I64 s.size ∧ s.name.data.toList.length ∈ (D i).weights Tryd.prog 68) (n := m) (fun i him => by
      obtain ⟨cs', hc, hd⟩ := hi i him
      rw [cells_sig] at hc
      obtain ⟨s, rfl, hz, hwt⟩ := read_sig hd
      obtain ⟨_, _, hat⟩ := World.cells?_some hc
      exact ⟨s, fun j hj => by rw [← Go.Deep.add_add]; exact hat j hj, hz, hwt⟩)
    have hcell : ∀ k, k < m * 3 → W.cell? (a.add k) = some (([Value.string (S (k / 3)).name, .bool (S (k / 3)).inp, .int .i64 (S (k / 3)).size] : List Value).getD (k % 3) undef) := fun k hk => by
      have h1 := (hS (k / 3) (by omega)).1 (k % 3) (by omega)
      rw [show k / 3 * 3 + k % 3 = k by omega] at h1
      rw [h1]
      have h3 : k % 3 < 3 := by omega
      rcases (by omega : k % 3 = 0 ∨ k % 3 = 1 ∨ k % 3 = 2) with e | e | e <;> rw [e] <;> rfl
    obtain ⟨h1, h2⟩ := addr_cells hcell
    have hlen : ((List.range len).map S).length = len := by simp
    refine ⟨(List.range len).map S, some a, m, a.block, a.off, by rw [hlen], ?_⟩
    refine ⟨by omega, hm, by simp only [maxN, hlen]; omega, fun h0 => h1 (by omega), fun j hj => ?_, fun j hj => ?_, fun j hj => ?_, fun s hs => ?_, fun s hs => ?_⟩
    · rw [hlen] at hj
      rw [h2 (j * 3) (by omega), show j * 3 / 3 = j by omega, show j * 3 % 3 = 0 by omega]; simp
    · rw [hlen] at hj
      rw [Nat.add_assoc, h2 (j * 3 + 1) (by omega), show (j * 3 + 1) / 3 = j by omega, show (j * 3 + 1) % 3 = 1 by omega]; simp
    · rw [hlen] at hj
      rw [Nat.add_assoc, h2 (j * 3 + 2) (by omega), show (j * 3 + 2) / 3 = j by omega, show (j * 3 + 2) % 3 = 2 by omega]; simp
    · obtain ⟨j, hj, rfl⟩ := List.mem_map.1 hs
      exact (hS j (by have := List.mem_range.1 hj; omega)).2.1
    · obtain ⟨j, hj, rfl⟩ := List.mem_map.1 hs
      have hjl := List.mem_range.1 hj
      have := hr _ (by
        rw [hx]
        simp only [DataW.weights, ht, List.mem_cons, List.mem_append]
        exact .inr (.inl (weightsAll_mem' (d := D j) (List.mem_map.2 ⟨j, hj, rfl⟩) _ (hS j (by omega)).2.2)))
      have e : (S j).name.data.toList.length = (S j).name.size := Array.length_toList
      unfold maxN
      omega

theorem read_rows {t : TypeId} {fuel : Nat} {v : Value} {x : DataW H × List MemPlace} (ht : Tryd.prog.underlying t = some (.slice 26)) (h : DataW.trod enc Tryd.prog W 0 (fun _ => true) true fuel t [v] = some x)
    (hr : ∀ n ∈ x.1.weights Tryd.prog t, n ≤ reachBytes) : ∃ l, IsRows W v l := by
  have hreach : reachBytes = 140737488351232 := rfl
  rcases open_int_rows ht Tryd.underlying26 Tryd.underlying3 cells_ints cells_int h with ⟨hcs, _⟩ | ⟨a, len, cap, A, L, C, Z, hcs, _, hl, hm, hx, hrow⟩
  · simp at hcs
    subst hcs
    exact ⟨[], fun _ => undef, ⟨none, 0, 0, 0, rfl, Nat.le_refl _, Nat.zero_le _, Nat.zero_le _, fun _ => rfl, (fun h => absurd h (by simp)), fun j hj => absurd hj (by simp)⟩, fun j hj => absurd hj (by simp)⟩
  · simp at hcs
    subst hcs
    have hw := hr (cap * 24) (by rw [hx]; simp [DataW.weights, ht, bytes_ints]; left; congr 1; omega)
    obtain ⟨h1, h2⟩ := addr_cells (f := fun i => .slice (A i) (L i) (C i)) (fun i hi => (hrow i hi).1)
    refine ⟨(List.range len).map fun r => (Z r).take (L r), fun j => .slice (A j) (L j) (C j), ⟨some a, cap, a.block, a.off, by simp, by simpa using hl, hm, by simp only [maxN, List.length_map, List.length_range]; omega, (fun h => by cases h), fun h0 => h1 (by simp at h0; omega), fun j hj => h2 j (by simp at hj; omega)⟩, fun j hj => ?_⟩
    have hj' : j < len := by simpa using hj
    have e : ((List.range len).map fun r => (Z r).take (L r)).getD j [] = (Z j).take (L j) := by simp [List.getD, hj']
    rw [e]
    obtain ⟨_, r1, r2, r3, r4, r5, r6⟩ := hrow j (by omega)
    have hlen : ((Z j).take (L j)).length = L j := by simp; omega
    cases hA : A j with
    | none =>
      have hc0 := r5 hA
      have hl0 : L j = 0 := by omega
      have hz0 : (Z j).take (L j) = [] := by rw [hl0]; rfl
      rw [hz0]
      show IsInts W (.slice (A j) (L j) (C j)) []
      rw [hA, hl0, hc0]
      exact ⟨⟨none, 0, 0, 0, rfl, Nat.le_refl _, Nat.zero_le _, Nat.zero_le _, fun _ => rfl, (fun h => absurd h (by simp)), fun j hj => absurd hj (by simp)⟩, by simp⟩
    | some a' =>
      obtain ⟨_, hcell⟩ := r6 a' hA
      have hw2 := hr (C j * 8) (by
        rw [hx]
        simp only [DataW.weights, ht, List.mem_cons, List.mem_append]
        refine .inr (.inl (weightsAll_mem' (d := intRow .i64 (A j) (L j) (Z j)) (List.mem_map.2 ⟨j, List.mem_range.2 hj', rfl⟩) _ ?_))
        rw [hA]
        simp [intRow, DataW.weights, Tryd.underlying26, bytes_int, lits]
        left; congr 1; omega)
      obtain ⟨g1, g2⟩ := addr_cells (f := fun i => .int .i64 ((Z j).getD i 0)) hcell
      refine ⟨⟨some a', C j, a'.block, a'.off, (by show Value.slice (A j) (L j) (C j) = _; rw [hA, hlen]), by omega, r2, by simp only [maxN]; omega, (fun h => by cases h), fun h0 => g1 (by omega), fun i hi => ?_⟩, fun n hn => wf_i64 (r4 n (List.mem_of_mem_take hn))⟩
      rw [g2 i (by omega)]
      simp [ivF, List.getD, show i < L j from by omega]

theorem read_game {base : Nat} {v : Value} {d : DataW H} {p : List MemPlace} (hv : Value.okWide Tryd.prog W .any base 28 v) (h : DataW.Trod enc Tryd.prog W 0 (fun _ => true) true 28 v d p)
    (hr : ∀ n ∈ d.weights Tryd.prog 28, n ≤ reachBytes) : ∃ g, IsGame W v g := by
  obtain ⟨v0, v1, v2, y0, y1, y2, n, rfl, rfl, rfl, h0, h1, h2⟩ := open_agg3 Tryd.underlying28 (by kernel_rfl) cells_game hv h
  have hw : ∀ n ∈ DataW.weightsEach Tryd.prog [26, 26, 23] [y0.1, y1.1, y2.1], n ≤ reachBytes := fun n hn => hr n (by simp only [DataW.weights, Tryd.underlying28]; exact hn)
  obtain ⟨l0, r0⟩ := read_ints Tryd.underlying26 h0 (fun n hn => hw n (DataW.weights_mem_each (j := 0) rfl rfl n hn))
  obtain ⟨l1, r1⟩ := read_ints Tryd.underlying26 h1 (fun n hn => hw n (DataW.weights_mem_each (j := 1) rfl rfl n hn))
  obtain ⟨l2, r2⟩ := read_rows Tryd.underlying23 h2 (fun n hn => hw n (DataW.weights_mem_each (j := 2) rfl rfl n hn))
  exact ⟨⟨l0, l1, l2⟩, v0, v1, v2, rfl, r0, r1, r2⟩

theorem read_auto {base : Nat} {v : Value} {d : DataW H} {p : List MemPlace} (hv : Value.okWide Tryd.prog W .any base 25 v) (h : DataW.Trod enc Tryd.prog W 0 (fun _ => true) true 25 v d p)
    (hr : ∀ n ∈ d.weights Tryd.prog 25, n ≤ reachBytes) : ∃ a, IsAuto W v a := by
  obtain ⟨v0, v1, v2, v3, y0, y1, y2, y3, n, rfl, rfl, rfl, h0, h1, h2, h3⟩ := open_agg4 Tryd.underlying25 (by kernel_rfl) cells_auto hv h
  have hw : ∀ n ∈ DataW.weightsEach Tryd.prog [3, 3, 23, 23] [y0.1, y1.1, y2.1, y3.1], n ≤ reachBytes := fun n hn => hr n (by simp only [DataW.weights, Tryd.underlying25]; exact hn)
  obtain ⟨z0, e0, _, w0⟩ := DataW.trod_int Tryd.underlying3 h0
  obtain ⟨z1, e1, _, w1⟩ := DataW.trod_int Tryd.underlying3 h1
  simp at e0 e1
  subst e0 e1
  obtain ⟨l2, r2⟩ := read_rows Tryd.underlying23 h2 (fun n hn => hw n (DataW.weights_mem_each (j := 2) rfl rfl n hn))
  obtain ⟨l3, r3⟩ := read_rows Tryd.underlying23 h3 (fun n hn => hw n (DataW.weights_mem_each (j := 3) rfl rfl n hn))
  exact ⟨⟨z0, z1, l2, l3⟩, v2, v3, rfl, ⟨wf_i64 w0, wf_i64 w1⟩, r2, r3⟩

theorem read_lasso {base : Nat} {v : Value} {d : DataW H} {p : List MemPlace} (hv : Value.okWide Tryd.prog W .any base 57 v) (h : DataW.Trod enc Tryd.prog W 0 (fun _ => true) true 57 v d p)
    (hr : ∀ n ∈ d.weights Tryd.prog 57, n ≤ reachBytes) : ∃ l, IsLs W v l := by
  obtain ⟨v0, v1, y0, y1, n, rfl, rfl, rfl, h0, h1⟩ := open_agg2 Tryd.underlying57 (by kernel_rfl) cells_lasso hv h
  have hw : ∀ n ∈ DataW.weightsEach Tryd.prog [26, 26] [y0.1, y1.1], n ≤ reachBytes := fun n hn => hr n (by simp only [DataW.weights, Tryd.underlying57]; exact hn)
  obtain ⟨l0, r0⟩ := read_ints Tryd.underlying26 h0 (fun n hn => hw n (DataW.weights_mem_each (j := 0) rfl rfl n hn))
  obtain ⟨l1, r1⟩ := read_ints Tryd.underlying26 h1 (fun n hn => hw n (DataW.weights_mem_each (j := 1) rfl rfl n hn))
  exact ⟨⟨l0, l1⟩, v0, v1, rfl, r0, r1⟩

theorem str_size {s : ByteArray} {t : TypeId} (h : ∀ n ∈ (DataW.lit (.string s.data.toList) : DataW H).weights Tryd.prog t, n ≤ reachBytes) : s.size ≤ maxN := by
  have h1 := h s.data.toList.length (by simp [DataW.weights])
  have e : s.data.toList.length = s.size := Array.length_toList
  have hreach : reachBytes = 140737488351232 := rfl
  unfold maxN
  omega

theorem gKeys : Tryd.prog.globalNamed "foresight/signal.keys" = some 0 := by kernel_rfl
theorem tKeys : (Tryd.prog.globals[0]?).map (·.type) = some 99 := by kernel_rfl

/-- What the row lists gives the walks: the key words. -/
theorem keys_of_laid {W : World} (h : laidMetH Tryd.prog [("foresight/signal.keys", Rows.laid_foresight_signal_keys)] W) : Keys W := by
  rw [MakeChecks.laidMetH_plain _ _ _ (by kernel_rfl)] at h
  obtain ⟨ps, ⟨g0, t0, cs0, f0, p0, q0, hg0, ht0, hv0, hd0, _, _⟩, _⟩ := h
  obtain rfl := Option.some.inj (gKeys.symm.trans hg0)
  obtain rfl := Option.some.inj (tKeys.symm.trans ht0)
  obtain ⟨xs, m1, rfl, hx1, hlen, hn3, hel⟩ := DataW.trod_array Tryd.underlying99 hd0
  have c45 : Tryd.prog.cellsOf 99 = 10 := by kernel_rfl
  intro j hj
  have hcell := World.var?_cell hg0 hv0 j
  obtain ⟨l0⟩ := cs0
  have h1 := hel j hj
  simp only [cells_string, Nat.mul_one] at h1
  simp only [Prod.mk.injEq] at hx1
  rw [show (⟨0, j, none⟩ : Addr) = ⟨0, j, none⟩ from rfl] at hcell
  have hxs : ∀ k, k < 10 → (xs[k]?).map (·.1) = some (.lit (.string (keyL.getD k []))) := fun k hk => by
    have e := congrArg (fun d => match d with | DataW.agg parts => parts[k]? | _ => none) hx1.1
    simp only [List.getElem?_map] at e
    rw [← e]
    match k, hk with
    | 0, _ => rfl
    | 1, _ => rfl
    | 2, _ => rfl
    | 3, _ => rfl
    | 4, _ => rfl
    | 5, _ => rfl
    | 6, _ => rfl
    | 7, _ => rfl
    | 8, _ => rfl
    | 9, _ => rfl
  have hx2 := hxs j hj
  cases hxj : xs[j]? with
  | none => rw [hxj] at hx2; simp at hx2
  | some y =>
    rw [hxj] at hx2 h1
    simp only [Option.map_some, Option.some.injEq] at hx2
    obtain ⟨s, e1, hy, _⟩ := DataW.trod_string Tryd.underlying9 h1
    rw [hy] at hx2
    simp only [DataW.lit.injEq, Lit.string.injEq] at hx2
    have hs : s = keyA j := by
      unfold keyA
      rw [← hx2]
    rw [hs] at e1
    have e2 : l0[j]? = some (.string (keyA j)) := by
      have := congrArg (fun l => l[0]?) e1
      simpa [List.getElem?_drop] using this
    rw [hcell]
    simpa using e2

/-- The door's own heap meets the condition. -/
theorem door_met (os : Os) (args : Array Value) : laidMetH Tryd.prog [("foresight/signal.keys", Rows.laid_foresight_signal_keys)] ((World.doorLaid Tryd.prog 400 os).forCall (fun _ _ => 0) ⟨#[], args, []⟩).memory :=
  laidMetH_of_parts3 (fuel := 8) (laidMet_of_run' 8 (by kernel_rfl) (by kernel_rfl)) (by kernel_rfl) (by kernel_rfl)

theorem stays_all {W W' : World} (hl : laidOutB Tryd.prog = true) {ts : List TypeId} (hts : (ts.all fun t => Tryd.prog.readableRec t && decide (t < Tryd.prog.types.size)) = true) :
    ∀ {vs : List Value} {ds : List (DataW H)} {ps : List MemPlace}, DataW.TrodAll enc Tryd.prog W 0 (fun _ => true) true ts vs ds ps → Below W.heap.size W W' → (∀ x ∈ ps, x.block < W.heap.size) →
      DataW.TrodAll enc Tryd.prog W' 0 (fun b => decide (b < W.heap.size)) true ts vs ds ps := by
  induction ts with
  | nil =>
    intro vs ds ps h hb hlt
    obtain ⟨rfl, rfl, rfl⟩ := trodAll_nil h
    simp [DataW.TrodAll]
  | cons t ts ih =>
    intro vs ds ps h hb hlt
    simp only [List.all_cons, Bool.and_eq_true, decide_eq_true_eq] at hts
    obtain ⟨v, vs', d, ds', p, q, rfl, rfl, rfl, h0, hR⟩ := trodAll_cons h
    exact trodAll_cons_mk (Below.trod hl hts.1.1 hts.1.2 h0 hb (fun x hx => hlt x (by simp [hx]))) (ih hts.2 hR hb (fun x hx => hlt x (by simp [hx])))

end
end Go.Proofs.YtjadeffdcbchnaaDoor
