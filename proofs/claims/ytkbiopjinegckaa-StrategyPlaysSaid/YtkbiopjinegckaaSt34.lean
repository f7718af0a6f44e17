/- The other player's strategies by numbers: what count and strategyOf of the chapter return. -/
import Derived.Test.YtkbiopjinegckaaSt24
namespace Go.Proofs.Ytkbiopjinegckaa
open Go.RowKit

/-- How many strategies there are for the first positions. -/
def totK (all : List (List Int)) : Nat → Nat
  | 0 => 1
  | k + 1 => totK all k * max (all.getD k []).length 1
/-- The strategy of a number, and what is left of the number, for the first positions. -/
def stK (all : List (List Int)) (m : Nat) : Nat → List Int × Nat
  | 0 => ([], m)
  | k + 1 => if (all.getD k []).length = 0 then ((stK all m k).1 ++ [-1], (stK all m k).2)
      else ((stK all m k).1 ++ [(all.getD k []).getD ((stK all m k).2 % (all.getD k []).length) 0], (stK all m k).2 / (all.getD k []).length)
theorem stK_len (all : List (List Int)) (m k : Nat) : (stK all m k).1.length = k := by
  induction k with
  | zero => rfl
  | succ k ih => rw [stK]; split <;> simp [ih]
theorem stK_le (all : List (List Int)) (m k : Nat) : (stK all m k).2 ≤ m := by
  induction k with
  | zero => exact Nat.le_refl _
  | succ k ih => rw [stK]; split; exact ih; exact Nat.le_trans (Nat.div_le_self _ _) ih
theorem totK_pos (all : List (List Int)) (k : Nat) : 0 < totK all k := by
  induction k with
  | zero => exact Nat.zero_lt_one
  | succ k ih => exact Nat.mul_pos ih (by omega)
theorem getD_appL (l : List Int) (x : Int) (k i : Nat) (h : l.length = k) (hi : i < k) : (l ++ [x]).getD i 0 = l.getD i 0 := by
  simp only [List.getD]; rw [List.getElem?_append_left (by omega)]
theorem getD_appR (l : List Int) (x : Int) (k : Nat) (h : l.length = k) : (l ++ [x]).getD k 0 = x := by
  simp only [List.getD]; rw [List.getElem?_append_right (by omega), h]; simp
/-- Each way to choose has a number. -/
theorem st_has (all : List (List Int)) (c : Nat → Int) (hc : ∀ i, all.getD i [] ≠ [] → c i ∈ all.getD i []) (k : Nat) :
    ∃ m, m < totK all k ∧ ∀ r, (stK all (m + totK all k * r) k).2 = r ∧ ∀ i, i < k → all.getD i [] ≠ [] → (stK all (m + totK all k * r) k).1.getD i 0 = c i := by
  induction k with
  | zero => exact ⟨0, Nat.zero_lt_one, fun r => ⟨by simp [stK, totK], fun i hi => absurd hi (by omega)⟩⟩
  | succ k ih =>
    obtain ⟨m, hm, h⟩ := ih
    by_cases he : (all.getD k []).length = 0
    · have e0 : all.getD k [] = [] := List.eq_nil_of_length_eq_zero he
      refine ⟨m, by rw [totK, he]; simpa using hm, fun r => ?_⟩
      have e1 : totK all (k + 1) = totK all k := by rw [totK, he]; simp
      rw [e1, stK, if_pos he]
      refine ⟨(h r).1, fun i hi hne => ?_⟩
      have hik : i < k := by
        rcases Nat.lt_or_ge i k with h1 | h1
        · exact h1
        · obtain rfl : i = k := by omega
          exact absurd e0 hne
      rw [getD_appL _ _ k i (stK_len _ _ _) hik]
      exact (h r).2 i hik hne
    · have hne : all.getD k [] ≠ [] := fun e => he (by rw [e]; rfl)
      obtain ⟨d, hd, hdc⟩ := List.getElem_of_mem (hc k hne)
      have hmax : max (all.getD k []).length 1 = (all.getD k []).length := by omega
      refine ⟨m + totK all k * d, ?_, fun r => ?_⟩
      · rw [totK, hmax]
        have h1 : totK all k * (d + 1) ≤ totK all k * (all.getD k []).length := Nat.mul_le_mul_left _ hd
        rw [Nat.mul_add, Nat.mul_one] at h1
        omega
      · have e1 : m + totK all k * d + totK all (k + 1) * r = m + totK all k * (d + (all.getD k []).length * r) := by
          rw [totK, hmax, Nat.mul_add, Nat.mul_assoc]; omega
        rw [e1, stK, if_neg he]
        obtain ⟨h1, h2⟩ := h (d + (all.getD k []).length * r)
        refine ⟨?_, fun i hi hni => ?_⟩
        · show _ / _ = _
          rw [h1, Nat.add_mul_div_left _ _ (by omega), Nat.div_eq_of_lt hd, Nat.zero_add]
        · rcases Nat.lt_or_ge i k with h3 | h3
          · rw [getD_appL _ _ k i (stK_len _ _ _) h3]
            exact h2 i h3 hni
          · obtain rfl : i = k := by omega
            rw [getD_appR _ _ i (stK_len _ _ _), h1, Nat.add_mul_mod_self_left, Nat.mod_eq_of_lt hd, getD_lt _ _ _ hd]
            exact hdc


/-- The successors of a position of a player. -/
def chS (g : Gm) (q : Int) (i : Nat) : List Int := if g.owner.getD i 0 = q then g.succ.getD i [] else []
def chA (g : Gm) (q : Int) : List (List Int) := (List.range g.owner.length).map (chS g q)
theorem chA_at (g : Gm) (q : Int) (i : Nat) (h : i < g.owner.length) : (chA g q).getD i [] = chS g q i := by simp [chA, List.getD, h]
/-- How many strategies, until there are too many. -/
def cntK (all : List (List Int)) (lim : Nat) : Nat → Nat
  | 0 => 1
  | k + 1 => if cntK all lim k ≤ lim then cntK all lim k * max (all.getD k []).length 1 else cntK all lim k
theorem cntK_tot (all : List (List Int)) (lim k : Nat) (h : cntK all lim k ≤ lim) : cntK all lim k = totK all k := by
  induction k with
  | zero => rfl
  | succ k ih =>
    rw [cntK] at h ⊢
    split at h
    · rename_i h1
      rw [if_pos h1, totK, ih h1]
    · omega
theorem cntK_stop (all : List (List Int)) (lim k j : Nat) (h : lim < cntK all lim k) : cntK all lim (k + j) = cntK all lim k := by
  induction j with
  | zero => rfl
  | succ j ih => rw [← Nat.add_assoc, cntK, ih, if_neg (by omega)]
theorem cntK_le (all : List (List Int)) (lim k : Nat) (hl : 1 ≤ lim) (h : ∀ i, (all.getD i []).length ≤ 1000) : cntK all lim k ≤ lim * 1000 := by
  induction k with
  | zero => show 1 ≤ _; omega
  | succ k ih =>
    rw [cntK]
    split
    · rename_i h1
      exact Nat.mul_le_mul h1 (by have := h k; omega)
    · exact ih
def countR (g : Gm) (q : Int) (lim : Nat) : Nat := cntK (chA g q) lim g.owner.length
def strR (g : Gm) (q : Int) (m : Nat) : List Int := (stK (chA g q) m g.owner.length).1
theorem chA_len (g : Gm) (q : Int) (h : ∀ i, (g.succ.getD i []).length ≤ 1000) (i : Nat) : ((chA g q).getD i []).length ≤ 1000 := by
  by_cases hi : i < g.owner.length
  · rw [chA_at _ _ _ hi]
    unfold chS
    split
    · exact h i
    · simp
  · rw [List.getD_eq_getElem?_getD, List.getElem?_eq_none (by simp [chA]; omega)]; simp

set_option maxRecDepth 100000 in
set_option maxHeartbeats 4000000 in
theorem count_c (w : World) (vg : Value) (g : Gm) (q : Int) (lim : Nat) (hg : IsGame w vg g) (hv : validB g = true) (hS : ∀ i, (g.succ.getD i []).length ≤ 1000) (hl1 : 1 ≤ lim) (hl2 : lim ≤ 1000) :
    Calls Try.prog 24 #[vg, .int .i64 q, .int .i64 (lim : Int)] w (Calm (.int .i64 (countR g q lim : Int)) w) := by
  obtain ⟨a0, c0, a1, c1, a2, c2, rfl⟩ := hg.shape
  obtain ⟨ln0, ln1, ln2⟩ := valid_lens hv
  obtain ⟨e0, e1, e2, b0, o0, b1, o1, b2, o2, V, had, hel⟩ := hg.dat (N := g.owner.length) rfl (by omega) (by omega)
  have HCR : Hid (countR g q lim = cntK (chA g q) lim g.owner.length) := (rfl : countR g q lim = cntK (chA g q) lim g.owner.length)
  have HCL := Lib.hid (fun k => cntK_le (chA g q) lim k hl1 (chA_len g q hS))
  have HNE : Hid (∀ i, i < g.owner.length → g.succ.getD i [] ≠ []) := fun i hi => (valid_at hv i hi).2.2.1
  have HCA : Hid (∀ i, i < g.owner.length → (chA g q).getD i [] = chS g q i) := fun i hi => chA_at g q i hi
  rw [← e1, ← e2]
  generalize hn : g.owner.length = n at *
  have hn3 : n ≤ 3000 := by omega
  have HS := Lib.hid hS
  clear hn hS e0 e1 e2 ln0 ln1 ln2 hv
  have hb0 : Below w.heap.size w (w.alloc (.cells #[.slice a0 n c0, .slice a1 n c1, .slice a2 n c2] 25)) := bel_box _
  have hx : (w.alloc (.cells #[.slice a0 n c0, .slice a1 n c1, .slice a2 n c2] 25)).heap[w.heap.size]? = some (.cells #[.slice a0 n c0, .slice a1 n c1, .slice a2 n c2] 25 (0, 0)) := heap_alloc_new _ _
  have HEL : Hid (∀ W, Below w.heap.size w W → ∀ j, j < n → W.cell? ⟨b0, o0 + j, none⟩ = some (.int .i64 (g.owner.getD j 0)) ∧ W.cell? ⟨b2, o2 + j, none⟩ = some (V j) ∧ IsInts W (V j) (g.succ.getD j [])) := fun W h j hj => ⟨cellB h (hel j hj).1, cellB h (hel j hj).2.2.1, (hel j hj).2.2.2.below h⟩
  clear hel
  go_enter Try.func24, Try.ntmps24
  go_upto_region 1 with (fail)
  generalize w.alloc (.cells #[.slice a0 n c0, .slice a1 n c1, .slice a2 n c2] 25) = w1 at *
  have HB0 := Lib.hid hb0
  have d0 := cell_of_row _ _ 0 _ _ _ hx
  have d2 := cell_of_row _ _ 2 _ _ _ hx
  clear hb0 hx
  go_wp2_with fail
  go_loopg [7, 8] n (fun gh c i wr => ∃ k : Nat, gh = n - k ∧ i = .int .i64 k ∧ c = .int .i64 (cntK (chA g q) lim k : Int) ∧ k ≤ n ∧ wr = w1)
  case atStart => exact ⟨0, rfl, rfl, rfl, by omega, rfl⟩
  case round =>
    obtain ⟨k, hgk, rfl, rfl, hk, rfl⟩ := hrel
    have HG := Lib.hid hgk
    clear hgk
    by_cases hlt : k < n
    · have hN : decide ((k : Int) < n) = true := decide_eq_true (by omega)
      have hcl := HCL.out k
      have HST := Lib.hid (cntK_stop (chA g q) lim k (n - k))
      have HSU : Hid (∀ c, cntK (chA g q) lim k = c → cntK (chA g q) lim (k + 1) = if c ≤ lim then c * max (chS g q k).length 1 else c) := fun c e => by rw [cntK, e, HCA.out k hlt]
      have HKN : Hid (k + (n - k) = n) := (by omega : k + (n - k) = n)
      obtain ⟨c, hc⟩ : ∃ c, cntK (chA g q) lim k = c := ⟨_, rfl⟩
      rw [hc] at hcl HST ⊢
      have HCE := Lib.hid hc
      clear hc
      by_cases hcm : c ≤ lim
      · have hle : decide ((c : Int) ≤ lim) = true := decide_eq_true (by omega)
        have hle' : decide (c ≤ lim) = true := decide_eq_true hcm
        obtain ⟨rfl, rfl, rfl⟩ := had (by omega)
        obtain ⟨yo, ys, yi⟩ := HEL.out _ HB0.out k hlt
        obtain ⟨aR, cR, hVk⟩ := yi.shape
        rw [hVk] at ys yi
        have hSk := HS.out k
        have HNk : Hid (0 < (g.succ.getD k []).length) := List.length_pos_iff.2 (HNE.out k hlt)
        by_cases ho : g.owner.getD k 0 = q
        · have HSQ : Hid (chS g q k = g.succ.getD k []) := (by unfold chS; rw [if_pos ho] : chS g q k = g.succ.getD k [])
          rw [ho] at yo
          have hqq : (q == q) = true := by simp
          obtain ⟨m, hm⟩ : ∃ m, (g.succ.getD k []).length = m := ⟨_, rfl⟩
          rw [hm] at ys hSk HNk
          have HM := Lib.hid hm
          have hmul : (c : Int) * (m : Int) = ((c * m : Nat) : Int) := by simp
          have hcm2 : c * m ≤ 1000 * 1000 := Nat.mul_le_mul (by omega) hSk
          have hwr : IntKind.i64.wrap ((c : Int) * (m : Int)) = ((c * m : Nat) : Int) := by rw [hmul]; exact IntWalk.i64_in _ ⟨by omega, by omega⟩
          clear hm yi hmul hVk ho
          go_wp2_with fail
          go_roundg (n - (k + 1))
          case measure => have := HG.out; omega
          case rel => exact ⟨k + 1, rfl, by go_num, by rw [HSU.out c HCE.out, if_pos hcm, HSQ.out, HM.out, show max m 1 = m from by have := HNk.out; omega]; rfl, by omega, rfl⟩
        · have HSQ : Hid (chS g q k = []) := (by unfold chS; rw [if_neg ho] : chS g q k = [])
          have hqq : (g.owner.getD k 0 == q) = false := by simpa using ho
          obtain ⟨ow, how⟩ : ∃ o, g.owner.getD k 0 = o := ⟨_, rfl⟩
          rw [how] at yo hqq
          clear yi hVk ho how ys
          go_wp2_with fail
          go_roundg (n - (k + 1))
          case measure => have := HG.out; omega
          case rel => exact ⟨k + 1, rfl, by go_num, by rw [HSU.out c HCE.out, if_pos hcm, HSQ.out]; simp, by omega, rfl⟩
      · have hle : decide ((c : Int) ≤ lim) = false := decide_eq_false (by omega)
        have hle' : decide (c ≤ lim) = false := decide_eq_false hcm
        go_wp2_with fail
        go_ret
        exact ⟨by rw [HCR.out]; have := HST.out (by omega); rw [HKN.out] at this; rw [this]; rfl, HB0.out⟩
    · obtain rfl : k = n := by omega
      go_wp2_with fail
      go_ret
      exact ⟨by rw [HCR.out]; rfl, HB0.out⟩
end Go.Proofs.Ytkbiopjinegckaa
