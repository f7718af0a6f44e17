/- What some of the chapter returns: a strategy of a player for all its positions. -/
import Derived.Test.YtkbiopjinegckaaSt24
import Derived.BigQuiet
namespace Go.Proofs.Ytkbiopjinegckaa
open Go.RowKit

def u8F (l : List Int) (j : Nat) : Value := .int .u8 (l.getD j 0)
def IsU8s (w : World) (v : Value) (l : List Int) : Prop := IsArr w v l.length (u8F l) ∧ ∀ x ∈ l, 0 ≤ x ∧ x ≤ 255
theorem IsU8s.below {w wr : World} {v : Value} {l : List Int} (h : IsU8s w v l) (hb : Below w.heap.size w wr) : IsU8s wr v l := ⟨IsArr.below h.1 hb, h.2⟩
/-- Numbers in new memory, of which something is known. -/
def NewS (n : Nat) (Q : Nat → Int → Prop) (w : World) (e : Ending) (w' : World) : Prop := ∃ v l, e = .returned v ∧ IsInts w' v l ∧ l.length = n ∧ (∀ i, i < n → Q i (l.getD i 0)) ∧ Below w.heap.size w w'
theorem get_snocL (L : List Int) (x : Int) (i : Nat) (h : i < L.length) : (L ++ [x]).getD i 0 = L.getD i 0 := by
  simp only [List.getD]; rw [List.getElem?_append_left h]
theorem get_snocR (L : List Int) (x : Int) : (L ++ [x]).getD L.length 0 = x := by
  simp only [List.getD]; rw [List.getElem?_append_right (Nat.le_refl _)]; simp

set_option maxRecDepth 100000 in
set_option maxHeartbeats 4000000 in
theorem some_c (w : World) (vg vk : Value) (g : Gm) (q : Int) (pk : List Int) (hg : IsGame w vg g) (hv : validB g = true) (hk : IsU8s w vk pk) :
    Calls Try.prog 23 #[vg, .int .i64 q, vk] w (NewS g.owner.length (fun i x => g.owner.getD i 0 = q → x ∈ g.succ.getD i []) w) := by
  obtain ⟨a0, c0, a1, c1, a2, c2, rfl⟩ := hg.shape
  obtain ⟨⟨aK, cK, bK, oK, rfl, gK⟩, hKr⟩ := hk
  obtain ⟨ln0, ln1, ln2⟩ := valid_lens hv
  obtain ⟨e0, e1, e2, b0, o0, b1, o1, b2, o2, V, had, hel⟩ := hg.dat (N := g.owner.length) rfl (by omega) (by omega)
  have HNE : Hid (∀ i, i < g.owner.length → g.succ.getD i [] ≠ []) := fun i hi => (valid_at hv i hi).2.2.1
  have HSR : Hid (∀ i, i < g.owner.length → ∀ x ∈ g.succ.getD i [], 0 ≤ x ∧ x < g.owner.length) := fun i hi => (valid_at hv i hi).2.2.2
  rw [← e1, ← e2]
  generalize hn : g.owner.length = n at *
  have hn3 : n ≤ 3000 := by omega
  clear e0 e1 e2 ln0 ln1 ln2 hv hg
  have hkn := gK.nb
  have hKad : 0 < pk.length → aK = some ⟨bK, oK, none⟩ := fun h => gK.ad h
  have HKE : Hid (∀ W, Below w.heap.size w W → ∀ j, j < pk.length → W.cell? ⟨bK, oK + j, none⟩ = some (.int .u8 (pk.getD j 0)) ∧ 0 ≤ pk.getD j 0 ∧ pk.getD j 0 ≤ 255) := fun W h j hj => ⟨cellB h (gK.el j hj), by rw [getD_lt _ _ _ hj]; exact hKr _ (List.getElem_mem hj)⟩
  have HSN : Hid (∀ i, i < n → (g.succ.getD i []).length ≤ 140737488351232) := fun i hi => by
    obtain ⟨a, c, e⟩ := (hel i hi).2.2.2.shape
    have h := (hel i hi).2.2.2
    rw [e] at h
    obtain ⟨-, -, -, h2, -⟩ := h.data
    exact h2
  have hb0 : Below w.heap.size w (w.alloc (.cells #[.slice a0 n c0, .slice a1 n c1, .slice a2 n c2] 25)) := bel_box _
  have hx : (w.alloc (.cells #[.slice a0 n c0, .slice a1 n c1, .slice a2 n c2] 25)).heap[w.heap.size]? = some (.cells #[.slice a0 n c0, .slice a1 n c1, .slice a2 n c2] 25 (0, 0)) := heap_alloc_new _ _
  have hz : (w.alloc (.cells #[.slice a0 n c0, .slice a1 n c1, .slice a2 n c2] 25)).heap.size = w.heap.size + 1 := by simp
  have HEL : Hid (∀ W, Below w.heap.size w W → ∀ j, j < n → W.cell? ⟨b0, o0 + j, none⟩ = some (.int .i64 (g.owner.getD j 0)) ∧ W.cell? ⟨b2, o2 + j, none⟩ = some (V j) ∧ IsInts W (V j) (g.succ.getD j [])) := fun W h j hj => ⟨cellB h (hel j hj).1, cellB h (hel j hj).2.2.1, (hel j hj).2.2.2.below h⟩
  clear hel gK hKr
  generalize hpl : pk.length = pl at *
  have HPL := Lib.hid hpl
  clear hpl
  go_enter Try.func23, Try.ntmps23
  go_upto_region 1 with (fail)
  generalize w.alloc (.cells #[.slice a0 n c0, .slice a1 n c1, .slice a2 n c2] 25) = w1 at *
  obtain ⟨B, hB⟩ : ∃ B, B = w1.heap.size := ⟨_, rfl⟩
  have HX : Hid (∀ W, Below B w1 W → Below w.heap.size w W ∧ W.cell? ⟨w.heap.size, 0, none⟩ = some (.slice a0 n c0) ∧ W.cell? ⟨w.heap.size, 2, none⟩ = some (.slice a2 n c2)) := fun W h => by
    have k := (h.block w.heap.size (by omega)).trans hx
    exact ⟨hb0.trans (h.mono (by omega)), cell_of_row _ _ 0 _ _ _ k, cell_of_row _ _ 2 _ _ _ k⟩
  have hO : OI (w1.alloc (.cells #[] 3)) B (.slice (some ⟨w1.heap.size, 0, none⟩) 0 0) [] := hB ▸ OI_empty0 w1
  have hb1 : Below B w1 (w1.alloc (.cells #[] 3)) := hB ▸ bel_box _
  have hsz : B ≤ (w1.alloc (.cells #[] 3)).heap.size := by simp; omega
  clear hb0 hx hz
  go_wp2_with fail
  generalize w1.alloc (.cells #[] 3) = w2 at *
  clear hB
  generalize w1.heap.size = r1 at *
  go_loopg [7, 8] n (fun gh v i wr => ∃ (k : Nat) (L : List Int), gh = n - k ∧ i = .int .i64 k ∧ k ≤ n ∧ Hid (L.length = k ∧ (∀ x ∈ L, I64 x) ∧ ∀ i, i < k → g.owner.getD i 0 = q → L.getD i 0 ∈ g.succ.getD i []) ∧ Hid (OI wr B v L) ∧ Below B w1 wr ∧ B ≤ wr.heap.size)
  case atStart => exact ⟨0, [], rfl, rfl, by omega, ⟨rfl, fun x hx => absurd hx (by simp), fun i hi => absurd hi (by omega)⟩, hO, hb1, hsz⟩
  case round =>
    obtain ⟨k, L, hgk, rfl, hk, HL, HO, hBl, hBs⟩ := hrel
    have HG := Lib.hid hgk
    have HB := Lib.hid hBl
    clear hgk hBl hO hb1 hsz
    obtain ⟨hbw, d0, d2⟩ := HX.out wr HB.out
    by_cases hlt : k < n
    · have hN : decide ((k : Int) < n) = true := decide_eq_true (by omega)
      have hLl : L.length ≤ 3000 := by have := HL.out.1; omega
      have HPU : Hid (∀ x, I64 x → (g.owner.getD k 0 = q → x ∈ g.succ.getD k []) → (L ++ [x]).length = k + 1 ∧ (∀ y ∈ L ++ [x], I64 y) ∧ ∀ i, i < k + 1 → g.owner.getD i 0 = q → (L ++ [x]).getD i 0 ∈ g.succ.getD i []) := fun x h1 h2 => by
        obtain ⟨l1, l2, l3⟩ := HL.out
        refine ⟨by simp [l1], fun y hy => ?_, fun i hi ho => ?_⟩
        · rcases List.mem_append.1 hy with h | h
          · exact l2 y h
          · rw [List.mem_singleton.1 h]; exact h1
        · by_cases e : i < k
          · rw [get_snocL _ _ _ (by omega)]; exact l3 i e ho
          · have e2 : i = L.length := by omega
            have e3 : i = k := by omega
            rw [e2, get_snocR, ← e2, e3]
            exact h2 (by rw [← e3]; exact ho)
      clear HL
      obtain ⟨rfl, rfl, rfl⟩ := had (by omega)
      obtain ⟨yo, ys, yi⟩ := HEL.out _ hbw k hlt
      obtain ⟨aR, cR, hVk⟩ := yi.shape
      rw [hVk] at ys yi
      have hNk : 0 < (g.succ.getD k []).length := List.length_pos_iff.2 (HNE.out k hlt)
      have hSk := HSN.out k hlt
      by_cases ho : g.owner.getD k 0 = q
      · have HMEM : Hid (∀ j, j < (g.succ.getD k []).length → I64 ((g.succ.getD k []).getD j 0) ∧ (g.succ.getD k []).getD j 0 ∈ g.succ.getD k []) := fun j hj => by
          have hm : (g.succ.getD k []).getD j 0 ∈ g.succ.getD k [] := by rw [getD_lt _ _ _ hj]; exact List.getElem_mem hj
          exact ⟨by have := HSR.out k hlt _ hm; unfold I64; omega, hm⟩
        rw [ho] at yo
        have hqq : (q == q) = true := by simp
        obtain ⟨bR, oR, hdR, mR, ddR⟩ := yi.data
        obtain rfl := hdR hNk
        have HDD := Lib.hid ddR
        obtain ⟨row, hrow⟩ : ∃ row, g.succ.getD k [] = row := ⟨_, rfl⟩
        rw [hrow] at ys hNk HDD hSk HMEM HPU
        obtain ⟨ln, hln⟩ : ∃ ln, row.length = ln := ⟨_, rfl⟩
        rw [hln] at ys hNk HDD hSk HMEM
        clear hln hrow yi ddR hdR hVk ho
        have hz1 : ¬ (ln : Int) = 0 := by omega
        have hz2 : ((ln : Int) == 0) = false := by simp; omega
        by_cases hp0 : 0 < pl
        · have hgt : decide ((pl : Int) > 0) = true := decide_eq_true (by omega)
          obtain rfl := hKad hp0
          have hpz1 : ¬ (pl : Int) = 0 := by omega
          have hpz2 : ((pl : Int) == 0) = false := by simp; omega
          have hmod := Nat.mod_lt k hp0
          obtain ⟨yk, y0, y1⟩ := HKE.out _ hbw _ hmod
          have ht1 : ((k : Nat) : Int).tmod (pl : Int) = ((k % pl : Nat) : Int) := by rw [Int.tmod_eq_emod_of_nonneg (by omega)]; omega
          generalize k % pl = km at *
          generalize pk.getD km 0 = kv at *
          obtain ⟨kn, rfl⟩ : ∃ kn : Nat, kv = (kn : Int) := ⟨kv.toNat, by omega⟩
          have hw1 : IntKind.i64.wrap (km : Int) = (km : Int) := IntWalk.i64_in _ ⟨by omega, by omega⟩
          have hw2 : IntKind.i64.wrap (kn : Int) = (kn : Int) := IntWalk.i64_in _ ⟨by omega, by omega⟩
          have hi0 : (0 : Int) ≤ km := by omega
          have hi1 : (km : Int) < pl := by omega
          have hrm := Nat.mod_lt kn hNk
          have ht2 : ((kn : Nat) : Int).tmod (ln : Int) = ((kn % ln : Nat) : Int) := by rw [Int.tmod_eq_emod_of_nonneg (by omega)]; omega
          generalize kn % ln = rm at *
          have hw3 : IntKind.i64.wrap (rm : Int) = (rm : Int) := IntWalk.i64_in _ ⟨by omega, by omega⟩
          have hr0 : (0 : Int) ≤ rm := by omega
          have hr1 : (rm : Int) < ln := by omega
          go_upto_region 10 with (fail)
          obtain ⟨hx64, hmem⟩ := HMEM.out rm hrm
          have yx := HDD.out rm hrm
          generalize row.getD rm 0 = x at *
          have HNO := Lib.hid (HPU.out x hx64 (fun _ => hmem))
          clear HPU HMEM HDD hmem hx64
          go_quiet (fail)
          have hB3 : Below wr.heap.size wr (wr.drewN nq) := below_draws _ _ nq
          generalize wr.drewN nq = w3 at *
          have HO3 := Lib.hid (HO.out.below hB3)
          have HB3 := Lib.hid (HB.out.trans (hB3.mono hBs))
          have hBs3 := Nat.le_trans hBs hB3.size
          clear hB3 yo yx ys d0 d2 HO HB hBs
          go_wp2_with (at_builtin; refine app_int rfl _ _ x rfl B _ _ HO3.out rfl _ (by simp) rfl (by omega) hBs3 ?_; intro v' w' hown' hg hmv; obtain ⟨ao', cap', hv'⟩ := hown'.slice; rw [List.length_append, List.length_singleton] at hv'; subst hv'; have HO2 := Lib.hid hown'; have HB2 := Lib.hid (HB3.out.grown hg hBs3 (fun g h => HO3.out.ge g h)); have hBs2 := Nat.le_trans hBs3 hg.size; clear hown' hg hmv)
          go_roundg (n - (k + 1))
          case measure => have := HG.out; omega
          case rel => exact ⟨k + 1, _, rfl, by go_num, by omega, HNO.out, HO2.out, HB2.out, hBs2⟩
        · have hgt : decide ((pl : Int) > 0) = false := decide_eq_false (by omega)
          have hrm : 0 < ln := hNk
          have ht2 : (0 : Int).tmod (ln : Int) = 0 := Int.zero_tmod _
          have hr1 : (0 : Int) < ln := by omega
          go_upto_region 10 with (fail)
          obtain ⟨hx64, hmem⟩ := HMEM.out 0 hrm
          have yx := HDD.out 0 hrm
          rw [Nat.add_zero] at yx
          generalize row.getD 0 0 = x at *
          have HNO := Lib.hid (HPU.out x hx64 (fun _ => hmem))
          clear HPU HMEM HDD hmem hx64
          go_quiet (fail)
          have hB3 : Below wr.heap.size wr (wr.drewN nq) := below_draws _ _ nq
          generalize wr.drewN nq = w3 at *
          have HO3 := Lib.hid (HO.out.below hB3)
          have HB3 := Lib.hid (HB.out.trans (hB3.mono hBs))
          have hBs3 := Nat.le_trans hBs hB3.size
          clear hB3 yo yx ys d0 d2 HO HB hBs
          go_wp2_with (at_builtin; refine app_int rfl _ _ x rfl B _ _ HO3.out rfl _ (by simp) rfl (by omega) hBs3 ?_; intro v' w' hown' hg hmv; obtain ⟨ao', cap', hv'⟩ := hown'.slice; rw [List.length_append, List.length_singleton] at hv'; subst hv'; have HO2 := Lib.hid hown'; have HB2 := Lib.hid (HB3.out.grown hg hBs3 (fun g h => HO3.out.ge g h)); have hBs2 := Nat.le_trans hBs3 hg.size; clear hown' hg hmv)
          go_roundg (n - (k + 1))
          case measure => have := HG.out; omega
          case rel => exact ⟨k + 1, _, rfl, by go_num, by omega, HNO.out, HO2.out, HB2.out, hBs2⟩
      · have hqq : (g.owner.getD k 0 == q) = false := by simpa using ho
        have HNO := Lib.hid (HPU.out (-1) (by unfold I64; omega) (fun h => absurd h ho))
        obtain ⟨ow, how⟩ : ∃ o, g.owner.getD k 0 = o := ⟨_, rfl⟩
        rw [how] at yo hqq
        clear yi hVk ho how ys hNk hSk HPU
        go_wp2_with (at_builtin; refine app_int rfl _ _ (-1) rfl B _ _ HO.out rfl _ (by simp) rfl (by omega) hBs ?_; intro v' w' hown' hg hmv; obtain ⟨ao', cap', hv'⟩ := hown'.slice; rw [List.length_append, List.length_singleton] at hv'; subst hv'; have HO2 := Lib.hid hown'; have HB2 := Lib.hid (HB.out.grown hg hBs (fun g h => HO.out.ge g h)); have hBs2 := Nat.le_trans hBs hg.size; clear hown' hg hmv)
        go_roundg (n - (k + 1))
        case measure => have := HG.out; omega
        case rel => exact ⟨k + 1, _, rfl, by go_num, by omega, HNO.out, HO2.out, HB2.out, hBs2⟩
    · obtain rfl : k = n := by omega
      go_wp2_with fail
      go_ret
      exact ⟨_, L, rfl, HO.out.is (by have := HL.out.1; simp only [maxN]; omega) HL.out.2.1, HL.out.1, HL.out.2.2, hbw⟩
end Go.Proofs.Ytkbiopjinegckaa
