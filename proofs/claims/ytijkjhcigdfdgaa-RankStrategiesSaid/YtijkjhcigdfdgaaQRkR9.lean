/- The least progress measure, by the reference. -/
import Derived.Test.YtijkjhcigdfdgaaQRkR8
import Derived.Test.YtijkjhcigdfdgaaQRkWR
namespace Go.Proofs.Ytijkjhcigdfdgaa
open Go.RowKit

theorem dig_zero (mo : List Nat) : List.replicate (max mo.length 1) 0 = digL mo 0 := by
  have h0 : ¬ 0 = topN mo := by have := top_pos mo; omega
  unfold digL
  rw [if_neg h0]
  by_cases h : mo = []
  · subst h; rfl
  · rw [if_neg h]
    have hl := List.length_pos_iff.2 h
    apply List.ext_getElem (by simp; omega)
    intro i h1 h2
    simp [digN]
def NewRows (ll : List (List Int)) (w : World) (e : Ending) (w' : World) : Prop := ∃ v, e = .returned v ∧ IsRows w' v ll ∧ Below w.heap.size w w'
/-- The rows of a measure. -/
def rowsF (mo : List Nat) (f : Nat → Nat) (n : Nat) : List (List Int) := (List.range n).map fun v => digL mo (f v)
section
variable {mo : List Nat} {f : Nat → Nat} {n k : Nat}
theorem rowsF_len : (rowsF mo f n).length = n := by simp [rowsF]
theorem rowsF_at (h : k < n) : (rowsF mo f n).getD k [] = digL mo (f k) := by simp [rowsF, List.getD, h]
theorem rowsF_snoc : rowsF mo (fun _ => 0) (k + 1) = rowsF mo (fun _ => 0) k ++ [digL mo 0] := by simp [rowsF, List.range_succ]
theorem rowsF_set {c : Nat} : (rowsF mo f n).set k (digL mo c) = rowsF mo (fun u => if u = k then c else f u) n := by
  apply List.ext_getElem (by simp [rowsF])
  intro i h1 h2
  rw [List.getElem_set]
  simp only [rowsF, List.getElem_map, List.getElem_range]
  by_cases e : k = i
  · subst e; rw [if_pos rfl, if_pos rfl]
  · rw [if_neg e, if_neg (fun h => e h.symm)]
theorem rowsF_is {w : World} {B : Nat} {v : Value} {vals : List Value} (h : RowL w B v vals (rowsF mo f n)) (hn : n ≤ 3000) (hl : mo.length ≤ 15001) (hmb : ∀ k, mo.getD k 0 ≤ 3000) : IsRows w v (rowsF mo f n) :=
  h.is (by rw [rowsF_len]; omega) fun j hj => by
    rw [rowsF_len] at hj
    rw [rowsF_at hj]
    have := dig_fit hl hmb (f j)
    exact ⟨by omega, this.2⟩
end

/-- How much is left to go up. -/
def leftM (mo : List Nat) (f : Nat → Nat) (n : Nat) (c : Bool) : Nat := 2 * (n * topN mo - sumN f n) + if c then 1 else 0
/-- How far a pass has come. -/
structure PassR (g : Gm) (n : Nat) (mo : List Nat) (f f' : Nat → Nat) (c : Bool) (k : Nat) : Prop where
  und : Und g n mo f'
  no : c = false → f' = f ∧ ∀ v, v < k → needN g mo f v ≤ f v
  yes : c = true → sumN f n < sumN f' n
section
variable {g : Gm} {n k : Nat} {mo : List Nat} {f f' : Nat → Nat} {c : Bool}
theorem PassR.start (h : Und g n mo f) : PassR g n mo f f false 0 := ⟨h, fun _ => ⟨rfl, fun v hv => absurd hv (by omega)⟩, fun e => by simp at e⟩
theorem PassR.skip (h : PassR g n mo f f' c k) (hn : ¬ f' k < needN g mo f' k) : PassR g n mo f f' c (k + 1) :=
  ⟨h.und, fun e => ⟨(h.no e).1, fun v hv => by
    by_cases e2 : v = k
    · subst e2; rw [(h.no e).1] at hn; omega
    · exact (h.no e).2 v (by omega)⟩, h.yes⟩
theorem PassR.up (hE : RE g n) (h : PassR g n mo f f' c k) (hk : k < n) (hl : f' k < needN g mo f' k) : PassR g n mo f (fun u => if u = k then needN g mo f' k else f' u) true (k + 1) := by
  have h1 := sum_lt (f := f') (f' := fun u => if u = k then needN g mo f' k else f' u) (n := n) (v := k) (fun u _ => by
    by_cases e : u = k
    · subst e; simp only [if_true]; omega
    · simp only [if_neg e]; omega) hk (by simpa using hl)
  refine ⟨h.und.raise hE hk, fun e => by simp at e, fun _ => ?_⟩
  cases c with
  | true => have := h.yes rfl; omega
  | false => rw [(h.no rfl).1] at h1 ⊢; exact h1
theorem PassR.less (hE : RE g n) (h : PassR g n mo f f' c n) (hu : Und g n mo f) : leftM mo f' n c < leftM mo f n true := by
  have hb := sum_bd (f := f') (t := topN mo) (n := n) fun u hu => h.und.le hE hu
  have hb2 := sum_bd (f := f) (t := topN mo) (n := n) fun u hu' => hu.le hE hu'
  unfold leftM
  cases c with
  | false =>
    rw [(h.no rfl).1]
    simp
  | true =>
    have := h.yes rfl
    simp
    omega
end

set_option maxRecDepth 100000 in
set_option maxHeartbeats 8000000 in
theorem rleast_c (w : World) (vg : Value) (g : Gm) (hg : IsGame w vg g) (hv : validB g = true) :
    Calls Try.prog 41 #[vg] w (NewRows (rowsF (moG g) (lfpF g (moG g)) g.owner.length) w) := by
  obtain ⟨la, lb, lc⟩ := valid_lens hv
  have hmb := mo_bd hv
  have hh := high_le hv
  have hE := re_valid hv
  have HBC : Hid (∀ W, Below w.heap.size w W → Calls Try.prog 56 #[vg] W (NewSet (castM (moG g)) W)) := fun W h => Bounds_c W vg g (hg.below h) (by omega) (by omega)
  have hl : (moG g).length ≤ 15001 := by rw [mo_len]; unfold partN; omega
  have HOC : Hid (∀ W vb vm f k, Below w.heap.size w W → IsInts W vb (castM (moG g)) → IsRows W vm (rowsF (moG g) f g.owner.length) → (∀ u, u < g.owner.length → f u ≤ topN (moG g)) → k < g.owner.length → Calls Try.prog 58 #[vg, vb, vm, .int .i64 (k : Int)] W (NewSet (digL (moG g) (needN g (moG g) f k)) W)) := fun W vb vm f k h hb hm hf hk => by
    have := pri_valid hv hk
    exact owed_c W vg vb vm g (moG g) _ f k g.owner.length (hg.below h) hb hm hE rfl lb lc rowsF_len hk (fun u hu => rowsF_at hu) hf ⟨this.1, this.2.1⟩ this.2.2 hl hmb
  have HCI : Hid (∀ x ∈ castM (moG g), I64 x) := fun x hx => by
    obtain ⟨y, hy, rfl⟩ := List.mem_map.1 hx
    obtain ⟨i, hi, rfl⟩ := List.getElem_of_mem hy
    have := hmb i
    rw [getD_lt _ _ _ hi] at this
    show _ ∧ _
    constructor
    · have : (0 : Int) ≤ Int.ofNat (moG g)[i] := Int.natCast_nonneg _; omega
    · show ((moG g)[i] : Int) ≤ _; omega
  have HLF : Hid (∀ f, Und g g.owner.length (moG g) f → (∀ v, v < g.owner.length → needN g (moG g) f v ≤ f v) → rowsF (moG g) (lfpF g (moG g)) g.owner.length = rowsF (moG g) f g.owner.length) := fun f hf hn => by
    unfold rowsF
    apply List.map_congr_left
    intro v hv
    rw [lfp_eq (hf.done hE hn) (List.mem_range.1 hv)]
  have HMB := Lib.hid hmb
  have HE := Lib.hid hE
  have HLE : Hid (∀ f, Und g g.owner.length (moG g) f → ∀ u, u < g.owner.length → f u ≤ topN (moG g)) := fun f hf u hu => hf.le hE hu
  have HNE : Hid (∀ f, Und g g.owner.length (moG g) f → ∀ u, u < g.owner.length → needN g (moG g) f u ≤ topN (moG g)) := fun f hf u hu => need_le hE (fun u hu => hf.le hE hu) hu
  obtain ⟨v0, v1, v2, rfl, g0, g1, g2⟩ := hg
  obtain ⟨a0, c0, rfl⟩ := g0.shape
  clear g0 g1 g2 hmb hh hE lb lc hv
  generalize rowsF (moG g) (lfpF g (moG g)) g.owner.length = res at *
  generalize moG g = mo at *
  have hx : (w.alloc (.cells #[.slice a0 g.owner.length c0, v1, v2] 25)).heap[w.heap.size]? = some (.cells #[.slice a0 g.owner.length c0, v1, v2] 25 (0, 0)) := (by (repeat (rw [alloc_get]; first | rw [if_pos (by first | (simp; done) | (simp; omega))] | rw [if_neg (by first | (simp; done) | (simp; omega))])); (try rfl))
  have hB : Below w.heap.size w (w.alloc (.cells #[.slice a0 g.owner.length c0, v1, v2] 25)) := (by repeat (first | exact Below.refl _ _ | assumption | (refine belA ?_ _) | (refine belD ?_ _)))
  generalize g.owner.length = n at *
  go_enter Try.func41, Try.ntmps41
  go_upto_region 1 with (fail)
  generalize (w.alloc (.cells #[.slice a0 n c0, v1, v2] 25)) = w1 at *
  have q0 := cell_of_row _ _ 0 _ _ _ hx
  have q1 := cell_of_row _ _ 1 _ _ _ hx
  have q2 := cell_of_row _ _ 2 _ _ _ hx
  have HB0 := Lib.hid hB
  clear hx hB
  go_wp2_with fail
  refine (HBC.out _ HB0.out).mono ?_
  rintro e w2 ⟨vb, rfl, hO, hb⟩
  have HB2 := Lib.hid (HB0.out.trans (hb.mono HB0.out.size))
  have HI := Lib.hid (hO.is (by rw [castM_len]; unfold maxN; omega) HCI.out)
  replace q0 := cellB hb q0
  replace q1 := cellB hb q1
  replace q2 := cellB hb q2
  obtain ⟨ab, cb, rfl⟩ := HI.out.shape
  have HZC : Hid (∀ W, Calls Try.prog 57 #[.slice ab (castM mo).length cb] W (NewSet (digL mo 0) W)) := fun W => by rw [← dig_zero, ← castM_len]; exact zero_c W ab _ cb (by rw [castM_len]; omega)
  clear hO hb HBC HCI
  generalize (castM mo).length = L at *
  go_wp2_with fail
  go_loopg [4, 5] n (fun gh v i wr => ∃ (k : Nat) (vals : List Value), gh = n - k ∧ i = .int .i64 (k : Int) ∧ k ≤ n ∧ Hid (RowL wr w2.heap.size v vals (rowsF mo (fun _ => 0) k)) ∧ Hid (Below w2.heap.size w2 wr))
  case atStart => exact ⟨0, [], rfl, rfl, by omega, RowL.nil _ _, Below.refl _ _⟩
  case round =>
    obtain ⟨k, vals, hgk, rfl, hk, HR, HB⟩ := hrel
    have HGK := Lib.hid hgk
    clear hgk
    have q0r := cellB HB.out q0
    obtain ⟨ao, co, rfl⟩ := HR.out.slice
    by_cases hlt : k < n
    · as_aux_lemma =>
      have i1 : (k : Int) < (n : Int) := by omega
      go_wp2_with fail
      refine (HZC.out _).mono ?_
      rintro e w3 ⟨vx, rfl, hox, hb3⟩
      have hbs : w2.heap.size ≤ w3.heap.size := Nat.le_trans HB.out.size hb3.size
      have HR3 := Lib.hid (HR.out.below hb3)
      have HX3 := Lib.hid (hox.base HB.out.size)
      have HB3 := Lib.hid (HB.out.trans (hb3.mono HB.out.size))
      have HA : Hid (Apart (.slice ao (rowsF mo (fun _ => 0) k).length co) vx) := Apart.of_lt (fun q hq => (HR.out.lt q hq).2) (fun q hq => hox.ge q hq)
      have hln : (rowsF mo (fun _ => 0) k).length < 5864062014000 := by rw [rowsF_len]; omega
      obtain ⟨ax, cx, rfl⟩ := HX3.out.slice
      clear hox hb3 q0r
      go_wp2_with (at_builtin; refine app_rowL rfl _ _ rfl w2.heap.size _ _ _ _ _ HR3.out rfl HX3.out HA.out _ (by simp) rfl hln hbs ?_; intro v' w' hown' hg hmv)
      have HBN : Hid (Below w2.heap.size w2 w') := HB3.out.grown hg (by have := HB3.out.size; omega) (fun q hq => (HR3.out.lt q hq).1)
      clear hg hmv
      go_roundg (n - (k + 1))
      case measure => have := HGK.out; omega
      case rel => exact ⟨k + 1, _, rfl, by go_num, by omega, by show RowL _ _ _ _ _; rw [rowsF_snoc]; exact hown', HBN⟩
    · as_aux_lemma =>
      obtain rfl : k = n := by omega
      have i1 : ¬ (k : Int) < (k : Int) := by omega
      have HLN := Lib.hid (rowsF_len (mo := mo) (f := fun _ => 0) (n := k))
      rw [HLN.out] at HR
      rw [HLN.out]
      go_upto_region 7 with (fail)
      obtain ⟨w4, rfl⟩ : ∃ w4, w4 = wr := ⟨_, rfl⟩
      go_wp2_with fail
      clear q0r HGK
      go_loopg [6] (leftM mo (fun _ => 0) k true) (fun gh c wr => ∃ (f : Nat → Nat) (b : Bool) (vals : List Value), gh = leftM mo f k b ∧ c = .bool b ∧ Hid (b = false → ∀ v, v < k → needN g mo f v ≤ f v) ∧ Hid (Und g k mo f) ∧ Hid (RowL wr w2.heap.size (.slice ao k co) vals (rowsF mo f k)) ∧ Hid (Below w2.heap.size w2 wr))
      case atStart => exact ⟨_, true, vals, rfl, rfl, fun e => by simp at e, Und.zero, HR, HB⟩
      case round =>
        obtain ⟨f, b, vals, hgk, rfl, HN, HU, HR, HB⟩ := hrel
        have HGK := Lib.hid hgk
        clear hgk
        cases b with
        | false => as_aux_lemma =>
          have HE := Lib.hid (HLF.out f HU.out (HN.out rfl))
          have HIS := Lib.hid (rowsF_is HR.out la hl HMB.out)
          go_wp2
          go_ret
          exact ⟨_, rfl, by rw [HE.out]; exact HIS.out, HB2.out.trans (HB.out.mono HB2.out.size)⟩
        | true => as_aux_lemma =>
          clear HN
          obtain ⟨w5, rfl⟩ : ∃ w5, w5 = wr := ⟨_, rfl⟩
          go_wp2_with fail
          go_loopg [6, 7] k (fun gh c i wr => ∃ (j : Nat) (f' : Nat → Nat) (b : Bool) (vals : List Value), gh = k - j ∧ i = .int .i64 (j : Int) ∧ c = .bool b ∧ j ≤ k ∧ Hid (PassR g k mo f f' b j) ∧ Hid (RowL wr w2.heap.size (.slice ao k co) vals (rowsF mo f' k)) ∧ Hid (Below w2.heap.size w2 wr))
          case atStart => exact ⟨0, f, false, vals, rfl, rfl, rfl, by omega, PassR.start HU.out, HR, HB⟩
          case round =>
            obtain ⟨j, f', b, vals, hgj, rfl, rfl, hj, HP, HR, HB⟩ := hrel
            have HGJ := Lib.hid hgj
            clear hgj
            by_cases hlt : j < k
            · as_aux_lemma =>
              have i1 : (j : Int) < (k : Int) := by omega
              have q0r := cellB HB.out q0
              have q1r := cellB HB.out q1
              have q2r := cellB HB.out q2
              have HIS := Lib.hid (rowsF_is HR.out la hl HMB.out)
              go_wp2_with fail
              refine (HOC.out _ _ _ f' j (HB2.out.trans (HB.out.mono HB2.out.size)) (HI.out.below HB.out) HIS.out (HLE.out f' HP.out.und) hlt).mono ?_
              rintro e w6 ⟨vx, rfl, hox, hb6⟩
              obtain ⟨gr, cr, hrow, hgr, hgl⟩ := HR.out.row (by rw [rowsF_len]; omega)
              obtain ⟨rfl, -, rfl⟩ : ao = some ⟨gr, 0, none⟩ ∧ k = (rowsF mo f' k).length ∧ co = cr := by simpa using hrow
              have HR6 := Lib.hid (HR.out.below hb6)
              have HB6 := Lib.hid (HB.out.trans (hb6.mono HB.out.size))
              have HX6 := Lib.hid (hox.base HB.out.size)
              have HA : Hid (Apart (.slice (some ⟨gr, 0, none⟩) k co) vx) := Apart.of_lt (fun q hq => (HR.out.lt q hq).2) (fun q hq => hox.ge q hq)
              obtain ⟨ax, cx, rfl⟩ := HX6.out.slice
              have HNT := Lib.hid (HNE.out f' HP.out.und j hlt)
              have HFT := Lib.hid (HLE.out f' HP.out.und j hlt)
              have HIX := Lib.hid (HX6.out.is (by have := (dig_fit hl HMB.out (needN g mo f' j)).1; unfold maxN; omega) (dig_fit hl HMB.out (needN g mo f' j)).2)
              have HIV : Hid (IsInts w6 (vals.getD j undef) (digL mo (f' j))) := by
                have := HR6.out.e j (by rw [rowsF_len]; exact hlt)
                rw [rowsF_at hlt] at this
                exact this.is (by have := (dig_fit hl HMB.out (f' j)).1; unfold maxN; omega) (dig_fit hl HMB.out (f' j)).2
              have c6 := HR6.out.cell rowsF_len hlt
              have f6 := HR6.out.fz rowsF_len j
              have HLC : Hid (Calls Try.prog 22 #[vals.getD j undef, .slice ax (digL mo (needN g mo f' j)).length cx] w6 (Quiet (.bool (decide (f' j < needN g mo f' j))) w6)) := by
                rw [← less_dig HFT.out HNT.out]
                exact Less_c _ _ _ _ _ HIV.out HIX.out
              clear hox hb6 q0r q1r q2r hrow HIS HIV HIX
              have HRS : Hid (RowL (w6.setCell ⟨gr, j, none⟩ (.slice ax (digL mo (needN g mo f' j)).length cx)) w2.heap.size (.slice (some ⟨gr, 0, none⟩) k co) (vals.set j (.slice ax (digL mo (needN g mo f' j)).length cx)) (rowsF mo (fun u => if u = j then needN g mo f' j else f' u) k)) := by
                show RowL _ _ _ _ _
                rw [← rowsF_set]
                exact HR6.out.set rowsF_len HX6.out HA.out
              by_cases hc : f' j < needN g mo f' j
              · have HP2 := Lib.hid (HP.out.up HE.out hlt hc)
                rw [decide_eq_true hc] at HLC
                clear hc
                generalize vals.getD j undef = vj at *
                generalize digL mo (needN g mo f' j) = dl at *
                go_wp2_with fail
                refine HLC.out.mono ?_
                rintro e w7 ⟨rfl, n7, rfl⟩
                have HRS7 : Hid (RowL ((w6.drewN n7).setCell ⟨gr, j, none⟩ (.slice ax dl.length cx)) w2.heap.size (.slice (some ⟨gr, 0, none⟩) k co) (vals.set j (.slice ax dl.length cx)) (rowsF mo (fun u => if u = j then needN g mo f' j else f' u) k)) := HRS.out.below (below_draws _ _ n7)
                have c7 := cellD n7 c6
                have f7 : (w6.drewN n7).frozen? ⟨gr, j, none⟩ = false := f6
                clear c6 f6
                go_wp2
                go_roundg (k - (j + 1))
                case measure => have := HGJ.out; omega
                case rel => exact ⟨j + 1, _, true, _, rfl, by go_num, rfl, by omega, HP2, HRS7, (HB6.out.trans (below_draws _ _ n7)).trans ((Only.set (S := fun q => q = gr) gr j _ rfl).below _ (fun q e => by have e : q = gr := e; omega) (HB6.out.trans (below_draws _ _ n7)).size)⟩
              · have HP2 := Lib.hid (HP.out.skip hc)
                rw [decide_eq_false hc] at HLC
                clear hc
                generalize vals.getD j undef = vj at *
                generalize digL mo (needN g mo f' j) = dl at *
                go_wp2_with fail
                refine HLC.out.mono ?_
                rintro e w7 ⟨rfl, n7, rfl⟩
                go_wp2
                go_roundg (k - (j + 1))
                case measure => have := HGJ.out; omega
                case rel => exact ⟨j + 1, f', b, vals, rfl, by go_num, rfl, by omega, HP2, HR6.out.below (below_draws _ _ n7), HB6.out.trans (below_draws _ _ n7)⟩
            · as_aux_lemma =>
              obtain rfl : j = k := by omega
              have i1 : ¬ (j : Int) < (j : Int) := by omega
              have HLS := Lib.hid (HP.out.less HE.out HU.out)
              go_wp2_with fail
              go_roundg (leftM mo f' j b)
              case measure => have := HGK.out; have := HLS.out; omega
              case rel => exact ⟨f', b, vals, rfl, rfl, fun e v hv => by rw [(HP.out.no e).1]; exact (HP.out.no e).2 v hv, HP.out.und, HR, HB⟩

end Go.Proofs.Ytijkjhcigdfdgaa
