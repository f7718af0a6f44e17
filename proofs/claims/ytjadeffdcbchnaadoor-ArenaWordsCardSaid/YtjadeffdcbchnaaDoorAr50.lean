/- The law ArenaWords: one letter of the play, the least priority of its cycle. -/
import Derived.Test.YtjadeffdcbchnaaDoorAr49
import Derived.Test.YtjadeffdcbchnaaDoorAr41
namespace Go.Proofs.YtjadeffdcbchnaaDoor
open Go.RowKit

theorem step_at {W : World} {vl vg : Value} {l : List Sig} {a : Au} {r : List Pl} {most : Nat} {gm : Gm} (hgm : plGm (succPl a (joinT l)) (topA a) r r.length = gm) (hs : validS l = true) (hv : validA a = true) (he : a.letters = lettersI l) (h : buildP a l most = some r)
    (hK : Keys W) (hl : IsSigs W vl l) (hg : IsGame W vg gm) {y : Pl} (hy : y ∈ r) (hi : y.inn = -1) {x : Int} (hx0 : 0 ≤ x) (hx1 : x < a.letters) :
    Calls Tryd.prog 32 #[vl, vg, .int .i64 (r.idxOf y : Int), .int .i64 x] W (fun e w' => e = .returned (.tuple #[.int .i64 (r.idxOf ⟨nxL a y.st x, -1, prL a y.st x⟩ : Int), .int .i64 (prL a y.st x), .bool true]) ∧ Below W.heap.size W w') := by
  obtain ⟨i, o, mid, tt, h1, h2, h3, h4, h5, ⟨z, h6, h7, h8, h9, h10⟩, h11, h12, h13, h14, h15, h16⟩ := letter_at hs hv he h hy hi hx0 hx1
  have hp := idx_lt hy
  have hrp : r[r.idxOf y] = y := List.getElem_idxOf hp
  obtain ⟨l0, l1, l2⟩ := plGm_len (succPl a (joinT l)) (topA a) r
  have G1 : ∀ k (hk : k < r.length), gm.prio.getD k 0 = plPri (topA a) r[k] ∧ gm.succ.getD k [] = numsP r (succPl a (joinT l) r[k]) := fun k hk => by
    rw [← hgm]
    simp [plGm, List.getD, hk]
  rw [hgm] at l0 l1 l2
  obtain ⟨-, s1⟩ := G1 _ hp
  rw [hrp] at s1
  rw [getD_lt _ _ _ h5] at h6
  rw [getD_lt _ _ _ h11] at h12
  obtain ⟨p2, s2⟩ := G1 mid h5
  obtain ⟨p3, -⟩ := G1 tt h11
  rw [h6] at p2 s2
  rw [h12] at p3
  have e2 : plPri (topA a) z = topA a := by unfold plPri; rw [if_neg (by omega)]
  have e3 : plPri (topA a) ⟨nxL a y.st x, -1, prL a y.st x⟩ = prL a y.st x := by unfold plPri; rw [if_pos (by show (-1 : Int) < 0; omega)]
  rw [e2] at p2
  rw [e3] at p3
  have hlt := (letters_bd hs).2
  have := step_c W vl vg l gm (r.idxOf y) x hK hl hg (by unfold I64; omega) h1 h2 (by omega) (by rw [s1]; simpa [numsP] using h3) (by rw [s1]; exact h4) (by omega) (by rw [s2]; simpa [numsP] using h9) (by rw [s2]; exact h10) (by omega) (by omega) (by rw [p2, p3]; exact h16) (by omega)
  rw [p3] at this
  rw [h13]
  exact this

/-- The least priority of k rounds from round R on. -/
def LM (a : Au) (w : Ls) (R : Nat) : Nat → Int
  | 0 => 30001
  | k + 1 => (readF a (stN a w (R + k), LM a w R k) w.loop).2
theorem readF_big {a : Au} {q m : Int} {ls : List Int} (h : ls ≠ []) (hp : prL a q (ls.getD 0 0) ≤ 20000) (hm : 20000 ≤ m) : (readF a (q, m) ls).2 = (readF a (q, 20000) ls).2 := by
  cases ls with
  | nil => exact absurd rfl h
  | cons x ls =>
    have hp' : prL a q x ≤ 20000 := hp
    show (readF a (_, min m (prL a q x)) ls).2 = (readF a (_, min 20000 (prL a q x)) ls).2
    rw [show min m (prL a q x) = min 20000 (prL a q x) by omega]
theorem LM_succ {a : Au} {w : Ls} (hv : validA a = true) (hw : validI a.letters w = true) (R k : Nat) : LM a w R (k + 1) = min (LM a w R k) (lsN a w (R + k)) := by
  obtain ⟨h1, h2, h3⟩ := valid_let hw
  have hq := stN_bd hv hw (R + k)
  have hls : lsN a w (R + k) ≤ 20000 := (readF_pr hv hq.1 hq.2 (by omega) h2).2
  show (readF a (stN a w (R + k), LM a w R k) w.loop).2 = _
  by_cases hm : LM a w R k ≤ 20000
  · have := readF_min a (stN a w (R + k)) (LM a w R k) 20000 w.loop
    rw [show min (LM a w R k) 20000 = LM a w R k by omega] at this
    exact this
  · have hx := h2 (w.loop.getD 0 0) (by rw [getD_lt _ _ _ h3]; exact List.getElem_mem h3)
    have hr := validA_row hv (s := (stN a w (R + k)).toNat) (by omega)
    have hp := validA_pr hv (s := (stN a w (R + k)).toNat) (by omega) (w.loop.getD 0 0).toNat (by omega)
    have hb := readF_big (a := a) (q := stN a w (R + k)) (m := LM a w R k) (ls := w.loop) (fun e => by rw [e] at h3; simp at h3) hp.2 (by omega)
    rw [hb]
    show lsN a w (R + k) = _
    omega
theorem LM_min {a : Au} {w : Ls} (hv : validA a = true) (hw : validI a.letters w = true) (R : Nat) : ∀ k, 0 < k → IsMin (lsN a w) R k (LM a w R k) := by
  intro k
  induction k with
  | zero => intro h; omega
  | succ k ih =>
    intro _
    rw [LM_succ hv hw]
    by_cases hk : k = 0
    · subst hk
      obtain ⟨h1, h2, h3⟩ := valid_let hw
      have hq := stN_bd hv hw R
      have hls : lsN a w R ≤ 20000 := (readF_pr hv hq.1 hq.2 (by omega) h2).2
      have e : min (LM a w R 0) (lsN a w (R + 0)) = lsN a w R := by show min 30001 (lsN a w R) = _; omega
      rw [e]
      exact ⟨⟨0, by omega, rfl⟩, fun i hi => by rw [show i = 0 by omega]; exact Int.le_refl _⟩
    · obtain ⟨⟨i, hi, e⟩, h⟩ := ih (by omega)
      refine ⟨?_, fun j hj => ?_⟩
      · by_cases hc : LM a w R k ≤ lsN a w (R + k)
        · exact ⟨i, by omega, by rw [e]; omega⟩
        · exact ⟨k, by omega, by omega⟩
      · by_cases hjk : j = k
        · rw [hjk]; omega
        · have := h j (by omega); omega
theorem least_back {P : Nat → Prop} (h : ∃ d, 0 < d ∧ P d) : ∃ D, 0 < D ∧ P D ∧ ∀ d, 0 < d → d < D → ¬ P d := by
  obtain ⟨d, h0, hd⟩ := h
  induction d using Nat.strongRecOn with
  | _ d ih =>
    by_cases hc : ∃ d', 0 < d' ∧ d' < d ∧ P d'
    · obtain ⟨d', h1, h2, h3⟩ := hc
      exact ih d' h2 h1 h3
    · exact ⟨d, h0, hd, fun d' h1 h2 h3 => hc ⟨d', h1, h2, h3⟩⟩
theorem word_eq {a : Au} {w : Ls} {R D : Nat} {b : Bool} (hv : validA a = true) (hw : validI a.letters w = true) (hD : 0 < D) (hp : plN a w (R + D) = plN a w R) (hb : WordP a w b) : b = (Int.tmod (LM a w R D) 2 == 0) := by
  obtain ⟨j, d, v, h1, h2, h3, rfl⟩ := hb
  have hst : stN a w (R + D) = stN a w R := by rw [← plN_st, ← plN_st, hp]
  rw [cyc_min h2 hst h1 hD h3 (LM_min hv hw R D hD)]

end Go.Proofs.YtjadeffdcbchnaaDoor
