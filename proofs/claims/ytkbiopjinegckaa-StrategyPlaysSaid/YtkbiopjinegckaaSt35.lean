/- What strategyOf of the chapter returns: the strategy with a number. -/
import Derived.Test.YtkbiopjinegckaaSt34
import Derived.BigQuiet
namespace Go.Proofs.Ytkbiopjinegckaa
open Go.RowKit

theorem chS_mem {g : Gm} {q x : Int} {i : Nat} (h : x ∈ chS g q i) : x ∈ g.succ.getD i [] := by
  unfold chS at h
  split at h
  · exact h
  · simp at h
set_option maxRecDepth 100000 in
set_option maxHeartbeats 4000000 in
theorem strategyOf_c (w : World) (vg : Value) (g : Gm) (q : Int) (m : Nat) (hg : IsGame w vg g) (hv : validB g = true) (hS : ∀ i, (g.succ.getD i []).length ≤ 1000) (hm : m ≤ 3000) :
    Calls Try.prog 25 #[vg, .int .i64 q, .int .i64 (m : Int)] w (NewN (strR g q m) w) := by
  obtain ⟨a0, c0, a1, c1, a2, c2, rfl⟩ := hg.shape
  obtain ⟨ln0, ln1, ln2⟩ := valid_lens hv
  obtain ⟨e0, e1, e2, b0, o0, b1, o1, b2, o2, V, had, hel⟩ := hg.dat (N := g.owner.length) rfl (by omega) (by omega)
  have HCR : Hid (strR g q m = (stK (chA g q) m g.owner.length).1) := (rfl : strR g q m = (stK (chA g q) m g.owner.length).1)
  have HNE : Hid (∀ i, i < g.owner.length → g.succ.getD i [] ≠ []) := fun i hi => (valid_at hv i hi).2.2.1
  have HCA : Hid (∀ i, i < g.owner.length → (chA g q).getD i [] = chS g q i) := fun i hi => chA_at g q i hi
  have HIN : Hid (∀ x ∈ (stK (chA g q) m g.owner.length).1, I64 x) := by
    have hbd : ∀ k, k ≤ g.owner.length → ∀ x ∈ (stK (chA g q) m k).1, I64 x := by
      intro k
      induction k with
      | zero => intro _ x hx; simp [stK] at hx
      | succ k ih =>
        intro hk x hx
        rw [stK] at hx
        split at hx
        · rcases List.mem_append.1 hx with h | h
          · exact ih (by omega) x h
          · rw [List.mem_singleton.1 h]; unfold I64; omega
        · rename_i hne
          rcases List.mem_append.1 hx with h | h
          · exact ih (by omega) x h
          · have hk' : k < g.owner.length := by omega
            rw [List.mem_singleton.1 h]
            rw [chA_at g q k hk'] at hne ⊢
            have hlt := Nat.mod_lt (stK (chA g q) m k).2 (show 0 < (chS g q k).length by omega)
            rw [getD_lt _ _ _ hlt]
            have hmem := List.getElem_mem hlt
            have := (valid_at hv k hk').2.2.2 _ (chS_mem hmem)
            generalize (chS g q k)[(stK (chA g q) m k).2 % (chS g q k).length] = y at *
            unfold I64; omega
    exact hbd _ (Nat.le_refl _)
  rw [← e1, ← e2]
  generalize hn : g.owner.length = n at *
  have hn3 : n ≤ 3000 := by omega
  have HS := Lib.hid hS
  clear hn hS e0 e1 e2 ln0 ln1 ln2 hv hg
  have hb0 : Below w.heap.size w (w.alloc (.cells #[.slice a0 n c0, .slice a1 n c1, .slice a2 n c2] 25)) := bel_box _
  have hx : (w.alloc (.cells #[.slice a0 n c0, .slice a1 n c1, .slice a2 n c2] 25)).heap[w.heap.size]? = some (.cells #[.slice a0 n c0, .slice a1 n c1, .slice a2 n c2] 25 (0, 0)) := heap_alloc_new _ _
  have hz : (w.alloc (.cells #[.slice a0 n c0, .slice a1 n c1, .slice a2 n c2] 25)).heap.size = w.heap.size + 1 := by simp
  have HEL : Hid (∀ W, Below w.heap.size w W → ∀ j, j < n → W.cell? ⟨b0, o0 + j, none⟩ = some (.int .i64 (g.owner.getD j 0)) ∧ W.cell? ⟨b2, o2 + j, none⟩ = some (V j) ∧ IsInts W (V j) (g.succ.getD j [])) := fun W h j hj => ⟨cellB h (hel j hj).1, cellB h (hel j hj).2.2.1, (hel j hj).2.2.2.below h⟩
  clear hel
  go_enter Try.func25, Try.ntmps25
  go_upto_region 1 with (fail)
  generalize w.alloc (.cells #[.slice a0 n c0, .slice a1 n c1, .slice a2 n c2] 25) = w1 at *
  obtain ⟨B, hB⟩ : ∃ B, B = w1.heap.size := ⟨_, rfl⟩
  have HX : Hid (∀ W, Below B w1 W → Below w.heap.size w W ∧ W.cell? ⟨w.heap.size, 0, none⟩ = some (.slice a0 n c0) ∧ W.cell? ⟨w.heap.size, 2, none⟩ = some (.slice a2 n c2)) := fun W h => by
    have k := (h.block w.heap.size (by omega)).trans hx
    exact ⟨hb0.trans (h.mono (by omega)), cell_of_row _ _ 0 _ _ _ k, cell_of_row _ _ 2 _ _ _ k⟩
  have hO : OI (w1.alloc (.cells #[] 3)) B (.slice (some ⟨w1.heap.size, 0, none⟩) 0 0) [] := hB ▸ OI_empty0 w1
  have hb1 : Below B w1 (w1.alloc (.cells #[] 3)) := hB ▸ bel_box _
  have hsz : B ≤ (w1.alloc (.cells #[] 3)).heap.size := by simp; omega
  clear hb0 hx hz
  go_wp2_with fail
  generalize w1.alloc (.cells #[] 3) = w2 at *
  clear hB
  generalize w1.heap.size = r1 at *
  go_loopg [2, 7, 8] n (fun gh nn v i wr => ∃ k : Nat, gh = n - k ∧ i = .int .i64 k ∧ nn = .int .i64 ((stK (chA g q) m k).2 : Int) ∧ k ≤ n ∧ Hid (OI wr B v (stK (chA g q) m k).1) ∧ Below B w1 wr ∧ B ≤ wr.heap.size)
  case atStart => exact ⟨0, rfl, rfl, rfl, by omega, hO, hb1, hsz⟩
  case round =>
    obtain ⟨k, hgk, rfl, rfl, hk, HO, hBl, hBs⟩ := hrel
    have HG := Lib.hid hgk
    have HB := Lib.hid hBl
    clear hgk hBl hO hb1 hsz
    obtain ⟨hbw, d0, d2⟩ := HX.out wr HB.out
    by_cases hlt : k < n
    · have hN : decide ((k : Int) < n) = true := decide_eq_true (by omega)
      have hrl := stK_le (chA g q) m k
      have hll := stK_len (chA g q) m k
      have HSU : Hid (∀ (l : List Int) (r : Nat), (stK (chA g q) m k) = (l, r) → stK (chA g q) m (k + 1) = if (chS g q k).length = 0 then (l ++ [-1], r) else (l ++ [(chS g q k).getD (r % (chS g q k).length) 0], r / (chS g q k).length)) := fun l r e => by rw [stK, e, HCA.out k hlt]
      obtain ⟨⟨L, r⟩, hLr⟩ : ∃ P, stK (chA g q) m k = P := ⟨_, rfl⟩
      have HSV := Lib.hid (HSU.out L r hLr)
      rw [hLr] at HO hrl hll ⊢
      simp only at HO hrl hll ⊢
      have HLR := Lib.hid hLr
      clear hLr HSU
      obtain ⟨rfl, rfl, rfl⟩ := had (by omega)
      obtain ⟨yo, ys, yi⟩ := HEL.out _ hbw k hlt
      obtain ⟨aR, cR, hVk⟩ := yi.shape
      rw [hVk] at ys yi
      have hSk := HS.out k
      have hNk : 0 < (g.succ.getD k []).length := List.length_pos_iff.2 (HNE.out k hlt)
      have hLl : L.length ≤ 3000 := by omega
      clear hll
      by_cases ho : g.owner.getD k 0 = q
      · have HSQ : Hid (chS g q k = g.succ.getD k []) := (by unfold chS; rw [if_pos ho] : chS g q k = g.succ.getD k [])
        rw [ho] at yo
        have hqq : (q == q) = true := by simp
        obtain ⟨bR, oR, hdR, mR, ddR⟩ := yi.data
        obtain rfl := hdR hNk
        have hmod := Nat.mod_lt r hNk
        have yr := ddR _ hmod
        have hdiv := Nat.div_le_self r (g.succ.getD k []).length
        obtain ⟨row, hrow⟩ : ∃ row, g.succ.getD k [] = row := ⟨_, rfl⟩
        rw [hrow] at ys hSk hNk hmod yr hdiv HSQ
        obtain ⟨ln, hln⟩ : ∃ ln, row.length = ln := ⟨_, rfl⟩
        rw [hln] at ys hSk hNk hmod yr hdiv
        have HLN := Lib.hid hln
        have ht1 : ((r : Nat) : Int).tmod (ln : Int) = ((r % ln : Nat) : Int) := by rw [Int.tmod_eq_emod_of_nonneg (by omega)]; omega
        have ht2 : ((r : Nat) : Int).tdiv (ln : Int) = ((r / ln : Nat) : Int) := by rw [Int.tdiv_eq_ediv_of_nonneg (by omega)]; omega
        have hz1 : ¬ (ln : Int) = 0 := by omega
        have hz2 : ((ln : Int) == 0) = false := by simp; omega
        have HE1 : Hid (stK (chA g q) m (k + 1) = (L ++ [row.getD (r % ln) 0], r / ln)) := (by rw [HSV.out, HSQ.out, if_neg (by rw [hln]; omega), hln] : stK (chA g q) m (k + 1) = (L ++ [row.getD (r % ln) 0], r / ln))
        obtain ⟨x, hxr⟩ : ∃ x, row.getD (r % ln) 0 = x := ⟨_, rfl⟩
        rw [hxr] at yr HE1
        generalize hdm : r % ln = rm at *
        generalize hdd : r / ln = rd at *
        have hw1 : IntKind.i64.wrap (rm : Int) = (rm : Int) := IntWalk.i64_in _ ⟨by omega, by omega⟩
        have hw2 : IntKind.i64.wrap (rd : Int) = (rd : Int) := IntWalk.i64_in _ ⟨by omega, by omega⟩
        have hi0 : (0 : Int) ≤ rm := by omega
        have hi1 : (rm : Int) < ln := by omega
        clear hdm hdd hxr hln hrow yi ddR hdR hVk ho HSV
        go_upto_region 7 with (fail)
        go_quiet (fail)
        have hB3 : Below wr.heap.size wr (wr.drewN nq) := below_draws _ _ nq
        generalize wr.drewN nq = w3 at *
        have HO3 := Lib.hid (HO.out.below hB3)
        have HB3 := Lib.hid (HB.out.trans (hB3.mono hBs))
        have hBs3 := Nat.le_trans hBs hB3.size
        replace d0 := cellB hB3 d0
        replace d2 := cellB hB3 d2
        replace ys := cellB hB3 ys
        clear hB3 yo yr HO HB hBs
        go_wp2_with (at_builtin; refine app_int rfl _ _ x rfl B _ _ HO3.out rfl _ (by simp) rfl (by omega) hBs3 ?_; intro v' w' hown' hg hmv; obtain ⟨ao', cap', hv'⟩ := hown'.slice; rw [List.length_append, List.length_singleton] at hv'; subst hv'; have HO2 := Lib.hid hown'; have HB2 := Lib.hid (HB3.out.grown hg hBs3 (fun g h => HO3.out.ge g h)); have hBs2 := Nat.le_trans hBs3 hg.size; clear hown' hg hmv)
        go_roundg (n - (k + 1))
        case measure => have := HG.out; omega
        case rel => exact ⟨k + 1, rfl, by go_num, by rw [HE1.out], by omega, (by show OI _ _ _ _; rw [HE1.out]; exact HO2.out), HB2.out, hBs2⟩
      · have HSQ : Hid (chS g q k = []) := (by unfold chS; rw [if_neg ho] : chS g q k = [])
        have hqq : (g.owner.getD k 0 == q) = false := by simpa using ho
        have HE1 : Hid (stK (chA g q) m (k + 1) = (L ++ [-1], r)) := (by rw [HSV.out, HSQ.out, if_pos (by simp)] : stK (chA g q) m (k + 1) = (L ++ [-1], r))
        obtain ⟨ow, how⟩ : ∃ o, g.owner.getD k 0 = o := ⟨_, rfl⟩
        rw [how] at yo hqq
        clear yi hVk ho how ys hSk hNk HSV HSQ
        go_wp2_with (at_builtin; refine app_int rfl _ _ (-1) rfl B _ _ HO.out rfl _ (by simp) rfl (by omega) hBs ?_; intro v' w' hown' hg hmv; obtain ⟨ao', cap', hv'⟩ := hown'.slice; rw [List.length_append, List.length_singleton] at hv'; subst hv'; have HO2 := Lib.hid hown'; have HB2 := Lib.hid (HB.out.grown hg hBs (fun g h => HO.out.ge g h)); have hBs2 := Nat.le_trans hBs hg.size; clear hown' hg hmv)
        go_roundg (n - (k + 1))
        case measure => have := HG.out; omega
        case rel => exact ⟨k + 1, rfl, by go_num, by rw [HE1.out], by omega, (by show OI _ _ _ _; rw [HE1.out]; exact HO2.out), HB2.out, hBs2⟩
    · obtain rfl : k = n := by omega
      go_wp2_with fail
      go_ret
      exact ⟨_, rfl, by rw [HCR.out]; exact HO.out.is (by rw [stK_len]; simp only [maxN]; omega) HIN.out, hbw⟩
end Go.Proofs.Ytkbiopjinegckaa
