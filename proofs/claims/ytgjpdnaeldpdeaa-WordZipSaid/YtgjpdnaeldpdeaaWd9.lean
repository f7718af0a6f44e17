/- What turned computes. -/
import Derived.Test.YtgjpdnaeldpdeaaWd8
import Derived.Laws.CopyOwn
namespace Go.Proofs.Ytgjpdnaeldpdeaa
open Go.RowKit

theorem splice2 {α : Type} {z c1 c2 : List α} {n : Nat} (h1 : c1.length = n) (h2 : z.length = n + c2.length) : splice (splice z 0 c1) n c2 = c1 ++ c2 := by
  subst h1
  have e : splice z 0 c1 = c1 ++ z.drop c1.length := by simp [splice]
  rw [e, splice, List.take_left, List.drop_eq_nil_of_le (by simp; omega), List.append_nil]

/-- A row of the call's own without room: its block. -/
theorem OI.whole {w : World} {base g n : Nat} {l : List Int} (h : OI w base (.slice (some ⟨g, 0, none⟩) n n) l) (hn : n = l.length) : w.heap[g]? = some (.cells (l.map (Value.int .i64)).toArray 3 (0, 0)) := by
  subst hn
  rcases h.2 with ⟨h0, -⟩ | ⟨g', cap, cur, hv, hb, hg, hnc, hcm, hcs, htake⟩
  · cases h0
  · simp only [Value.slice.injEq, Option.some.injEq, Addr.mk.injEq, and_true, true_and] at hv
    obtain ⟨rfl, rfl⟩ := hv
    rw [List.take_of_length_le (by rw [Array.length_toList, hcs]; exact Nat.le_refl _)] at htake
    rw [← htake]
    exact hg
theorem OI.of_row {w : World} {base g n : Nat} {l : List Int} (hb : base ≤ g) (hn : n = l.length) (hm : n ≤ maxLen) (h : w.heap[g]? = some (.cells (l.map (Value.int .i64)).toArray 3 (0, 0))) : OI w base (.slice (some ⟨g, 0, none⟩) n n) l := by
  subst hn
  exact ⟨by simp, .inr ⟨g, l.length, _, rfl, hb, h, Nat.le_refl _, hm, by simp, List.take_of_length_le (by simp)⟩⟩

set_option maxRecDepth 100000 in
set_option maxHeartbeats 2000000 in
theorem turned_c (w : World) (vl : Value) (l : List Int) (k : Nat) (hl : IsInts w vl l) (hk : k < l.length) (hlen : l.length ≤ 100000) :
    Calls Try.prog 42 #[vl, .int .i64 (k : Int)] w (NewN (turnL l k) w) := by
  obtain ⟨⟨ao, cap, b, off, rfl, hl⟩, hr⟩ := hl
  have hn := hl.nb
  obtain rfl := hl.ad (by omega)
  have hlc := hl.lc
  have hcm := hl.cm
  have HR := Lib.hid hr
  clear hr
  obtain ⟨c1, hc1⟩ : ∃ c1, c1 = (l.drop k).map (Value.int .i64) := ⟨_, rfl⟩
  obtain ⟨c2, hc2⟩ : ∃ c2, c2 = (l.take k).map (Value.int .i64) := ⟨_, rfl⟩
  have HC1 := Lib.hid hc1
  have HC2 := Lib.hid hc2
  have hl1 : c1.length = l.length - k := by rw [hc1]; simp
  have hl2 : c2.length = k := by rw [hc2]; simp; omega
  clear hc1 hc2
  have hsz : (Try.prog.info? 3).map (·.size) = some 1 := by kernel_rfl
  obtain ⟨z, hz⟩ : ∃ z, z = (List.replicate l.length (0 : Int)).map (Value.int .i64) := ⟨_, rfl⟩
  have hzl : z.length = l.length := by rw [hz]; simp
  have HZ := Lib.hid hz
  clear hz
  have h11 : ∀ v ∈ c1, v.oneCell' = true := fun v hv => by rw [HC1.out] at hv; obtain ⟨x, _, rfl⟩ := List.mem_map.1 hv; rfl
  have h12 : ∀ v ∈ c2, v.oneCell' = true := fun v hv => by rw [HC2.out] at hv; obtain ⟨x, _, rfl⟩ := List.mem_map.1 hv; rfl
  have HS1 : Hid (∀ W, Below w.heap.size w W → ∀ j v, c1[j]? = some v → W.cell? ((⟨b, off + k, none⟩ : Addr).add j) = some v) := fun W hW j v hj => by
    rw [HC1.out] at hj
    simp only [List.getElem?_map, List.getElem?_drop, Option.map_eq_some_iff] at hj
    obtain ⟨x, hx, rfl⟩ := hj
    obtain ⟨hlt, rfl⟩ := List.getElem?_eq_some_iff.1 hx
    have := cellB hW (hl.el (k + j) hlt)
    unfold ivF at this
    rw [getD_lt _ _ _ hlt, ← Nat.add_assoc] at this
    unfold Addr.add
    split
    · subst j; exact this
    · exact this
  have HS2 : Hid (∀ W, Below w.heap.size w W → ∀ j v, c2[j]? = some v → W.cell? ((⟨b, off, none⟩ : Addr).add j) = some v) := fun W hW j v hj => by
    rw [HC2.out] at hj
    have hjk : j < k := by
      rcases Nat.lt_or_ge j k with h | h
      · exact h
      · rw [List.getElem?_eq_none (by simp; omega)] at hj; cases hj
    simp only [List.getElem?_map, List.getElem?_take, if_pos hjk, Option.map_eq_some_iff] at hj
    obtain ⟨x, hx, rfl⟩ := hj
    obtain ⟨hlt, rfl⟩ := List.getElem?_eq_some_iff.1 hx
    have := cellB hW (hl.el j hlt)
    unfold ivF at this
    rw [getD_lt _ _ _ hlt] at this
    unfold Addr.add
    split
    · subst j; exact this
    · exact this
  go_enter Try.func42, Try.ntmps42
  go_wp2_with (first
    | (at_make; refine mk_int rfl _ _ _ Try.underlying22 rfl w.heap.size _ l.length rfl rfl rfl (by omega) (Nat.le_refl _) ?_; intro w1 hO hg; have hB1 := (Below.refl w.heap.size w).grown hg (Nat.le_refl _) (fun g h => by cases h); have hW1 := hO.whole (by simp); rw [← HZ.out] at hW1; have HW1 := Lib.hid hW1; clear hO hg hW1)
    | (refine wpList_copy_splice (o := ⟨some 14, _, _, _, _, _⟩) rfl (.tmp 10) (.tmp 13) _ _ rfl _ Try.underlying22 hsz _ _ _ _ _ _ rfl rfl w.heap.size 0 z _ HW1.out c1 (by rw [hl1]; exact (Nat.min_eq_left (by omega)).symm) (fun _ => ⟨rfl, _, rfl, HS1.out _ hB1⟩) (by omega) h11 w.heap.size w hB1 (Nat.le_refl _) ?_; intro w2 HW2 hB2)
    | fail)
  generalize hn9 : l.length - k = n9 at *
  have hkd1 : n9 ≤ l.length := by omega
  have hkd2 : (n9 : Int) ≤ l.length := by omega
  have hkd3 : 0 < l.length := by omega
  have hkc : k ≤ cap := by omega
  have hkc2 : ¬ cap < k := by omega
  have hkc3 : ¬ cap = 0 := by omega
  have hkc4 : ¬ (cap : Int) < k := by omega
  have hkc5 : ¬ l.length < n9 := by omega
  have hzs : (splice z 0 c1).length = l.length := by rw [length_splice _ _ _ (by omega), hzl]
  have HS12 : Hid (splice (splice z 0 c1) n9 c2 = c1 ++ c2) := splice2 (by omega) (by omega)
  have HM : Hid ((turnL l k).map (Value.int .i64) = c1 ++ c2) := by show _ = _; rw [HC1.out, HC2.out, turnL, List.map_append]
  go_region_law (refine step_copy_splice (by rfl) (.tmp 17) (.tmp 20) _ _ (by rfl) _ Try.underlying22 hsz _ _ _ _ _ _ (by rfl) (by rfl) w.heap.size n9 (splice z 0 c1) _ HW2.out c2 (by rw [hl2]; (first | exact (Nat.min_eq_left (by omega)).symm | (simp; omega))) (fun h => ⟨by (first | rfl | (rw [if_neg (by omega)])), _, by rfl, HS2.out _ (by repeat (first | exact Below.refl _ _ | assumption | (refine belA ?_ _) | (refine belD ?_ _) | (refine Below.drew ?_)))⟩) (by omega) h12 w.heap.size w (by repeat (first | exact Below.refl _ _ | assumption | (refine belA ?_ _) | (refine belD ?_ _) | (refine Below.drew ?_))) (Nat.le_refl _) ?_; intro w3 HW3 hB3)
  all_goals
    have hrow := HW3.out
    rw [HS12.out, ← HM.out] at hrow
    have hO : OI w3 w.heap.size (.slice (some ⟨w.heap.size, 0, none⟩) l.length l.length) (turnL l k) := OI.of_row (Nat.le_refl _) (turnL_len l k).symm (by unfold maxLen; omega) hrow
    have HO := Lib.hid hO
    clear hrow hO h11 h12 hl1 hl2 hzs hkc hkc2 hkc3 hkc4 hkc5 hsz hzl hn9 hkd1 hkd2 hkd3
    have h9 := HO.out.is (by rw [turnL_len]; unfold maxN; omega) (fun x hx => HR.out x (by unfold turnL at hx; exact (List.mem_append.1 hx).elim List.mem_of_mem_drop List.mem_of_mem_take))
    have H9 := Lib.hid h9
    clear h9 HO
    go_wp2
    · have e9 : l.length = n9 := by assumption
      go_ret
      refine ⟨_, rfl, ?_, hB3⟩
      have h9 := H9.out
      rw [e9] at h9
      exact h9
    · go_ret
      exact ⟨_, rfl, H9.out, hB3⟩

end Go.Proofs.Ytgjpdnaeldpdeaa
