/- Games: the two Valid, Small, Greatest, Swap, Part, Solve; slices; rows of one's own; drawn regions. -/
import Derived.Test.YtijkjhcigdfdgaaQRkCd
namespace Go.Proofs.Ytijkjhcigdfdgaa
open Go.RowKit
open Go Go.RowKit
open Go.RowKit Go.Maps Go.WideMaps

theorem ns_tot {g : Gm} (hv : validB g = true) : TotB g g.owner.length (nsAl g.owner.length g.owner.length) := fun v hvn _ => by
  have hne := (valid_fits hv 0 (.inl rfl)).ne v hvn
  obtain ⟨x, hx⟩ := List.exists_mem_of_ne_nil _ hne
  obtain ⟨y, rfl, hy⟩ := valid_rg hv v hvn x hx
  exact ⟨(y : Int), hx, (ns_set _ y).2 hy⟩

/-- The solver that newSolver leaves. -/
theorem NS.sv {w wr : World} {g : Gm} {n sp ba bl bw ob bq : Nat} {v0 v1 v2 : Value} {vals : List Value} {al : List Bool} {lf aq : List Int} {bf : List (List Int)} (h : NS w wr n sp ba bl bw ob bq v0 v1 v2 vals al lf aq bf) (hg : IsGame w (.agg #[v0, v1, v2]) g) (hG : GOK g n bf) :
    Sv wr.heap.size wr ⟨sp, ba, bl, bw, v0, v1, v2, .slice (some ⟨ob, 0, none⟩) n n, fun j => vals.getD j undef⟩ g n bf al lf (List.replicate n 0) := by
  have hne := h.ne
  have hgt := h.gt
  have hl := h.lt
  obtain ⟨u0, u1, u2, hu, i0, i1, -⟩ := hg
  obtain ⟨rfl, rfl, rfl⟩ : v0 = u0 ∧ v1 = u1 ∧ v2 = u2 := by simpa using hu
  have hh : ∀ k, (⟨sp, ba, bl, bw, v0, v1, v2, .slice (some ⟨ob, 0, none⟩) n n, fun j => vals.getD j undef⟩ : Ad).hot k → k = ba ∨ k = bl ∨ k = bw := fun k h => h
  refine ⟨fun W hW => ?_, ?_, ?_, ?_, h.la, h.ll, by simp, ⟨hne.1.1, hne.1.2.1, hne.1.2.2.1⟩, ⟨hl.2.1, hl.2.2.1, hl.2.2.2.1⟩⟩
  · have hb : Below w.heap.size w W := h.bx.trans (hW.below _ (fun k hk => by
      rcases hk with hk | hk
      · have := hh k hk; omega
      · omega) h.bx.size)
    have hR := h.R.only hW (fun e => by
      rcases e with e | e
      · have := hh _ e; omega
      · omega) (fun j hj b hb e => by
      have := h.x j hj b hb
      have := (h.R.e j hj).lt' b hb
      rcases e with e | e
      · have := hh _ e; omega
      · omega)
    refine ⟨?_, i0.below hb, i1.below hb, ?_, fun j hj => ?_⟩
    · exact (hW.block _ hl.1 (fun e => by
      rcases e with e | e
      · have := hh _ e; omega
      · omega)).trans h.box
    · refine ownsRow_arr hR.o (by have := hG.n3; unfold maxN; omega) _ fun j hj => ?_
      show vals[j]? = some (vals.getD j undef)
      rw [List.getD_eq_getElem?_getD, List.getElem?_eq_getElem (by rw [h.R.lv]; exact hj)]; rfl
    · refine (hR.e j hj).is (by have := hG.bs j; unfold maxN; omega) fun x hx => ?_
      obtain ⟨v, rfl, hv⟩ := hG.bo.rg j x hx
      have := hG.n3
      unfold I64; omega
  · exact ⟨h.A.1, h.A.2.imp_right fun ⟨g0, cap, cur, e, h1, h2⟩ => ⟨g0, cap, cur, e, Nat.zero_le _, h2⟩⟩
  · exact h.L.down (Nat.zero_le _)
  · exact h.W.down (Nat.zero_le _)

theorem ints_nil0 (w : World) : IsInts w (.slice none 0 0) [] := ⟨⟨none, 0, 0, 0, rfl, Nat.le_refl _, Nat.zero_le _, Nat.zero_le _, fun _ => rfl, (fun h => absurd h (by simp)), fun j hj => absurd hj (by simp)⟩, by simp⟩

/-- What Solve leaves. -/
def Solved (g : Gm) (w : World) (e : Ending) (w' : World) : Prop := ∃ v l, e = .returned v ∧ IsInts w' v l ∧ IsSol g l ∧ Below w.heap.size w w'

set_option maxRecDepth 100000 in
set_option maxHeartbeats 4000000 in
theorem Solve_c (w : World) (vg : Value) (g : Gm) (hg : IsGame w vg g) (hS : ∀ i, (g.succ.getD i []).length ≤ 1000) :
    Calls Try.prog 23 #[vg] w (Solved g w) := by
  obtain ⟨v0, v1, v2, rfl, i0, i1, i2⟩ := id hg
  have HG := Lib.hid hg
  clear hg
  obtain ⟨⟨ao0, cap0, b0, off0, rfl, -⟩, -⟩ := i0
  obtain ⟨⟨ao1, cap1, b1, off1, rfl, -⟩, -⟩ := i1
  obtain ⟨V, ⟨ao2, cap2, b2, off2, rfl, -⟩, -⟩ := i2
  go_enter Try.func23, Try.ntmps23
  go_upto_region 1 with (fail)
  have hb1 := bel_box (w := w) (Obj.cells #[Value.slice ao0 g.owner.length cap0, Value.slice ao1 g.prio.length cap1, Value.slice ao2 g.succ.length cap2] 25)
  have hgb : Hid (∀ W, Below (w.alloc (Obj.cells #[Value.slice ao0 g.owner.length cap0, Value.slice ao1 g.prio.length cap1, Value.slice ao2 g.succ.length cap2] 25)).heap.size (w.alloc (Obj.cells #[Value.slice ao0 g.owner.length cap0, Value.slice ao1 g.prio.length cap1, Value.slice ao2 g.succ.length cap2] 25)) W → W.heap[w.heap.size]? = some (Obj.cells #[Value.slice ao0 g.owner.length cap0, Value.slice ao1 g.prio.length cap1, Value.slice ao2 g.succ.length cap2] 25 (0, 0))) := fun W hW => (hW.block _ (by simp)).trans (heap_alloc_new w _)
  generalize (w.alloc (Obj.cells #[Value.slice ao0 g.owner.length cap0, Value.slice ao1 g.prio.length cap1, Value.slice ao2 g.succ.length cap2] 25)) = w1 at *
  have HB1 := Lib.hid hb1
  clear hb1
  have d0 := cell_of_row _ _ 0 _ _ _ (hgb.out w1 (Below.refl _ _))
  have d1 := cell_of_row _ _ 1 _ _ _ (hgb.out w1 (Below.refl _ _))
  have d2 := cell_of_row _ _ 2 _ _ _ (hgb.out w1 (Below.refl _ _))
  go_wp2_with fail
  refine (AValid_c w1 _ g (HG.out.below HB1.out)).mono ?_
  rintro e w2 ⟨rfl, hb2⟩
  have d0 := cellB hb2 d0
  have d1 := cellB hb2 d1
  have d2 := cellB hb2 d2
  have HB2 := Lib.hid (HB1.out.trans (hb2.mono HB1.out.size))
  clear hb2 hgb
  cases hv : validB g with
  | false =>
    have HV := Lib.hid hv
    clear hv
    go_wp2
    go_ret
    exact ⟨_, [], rfl, ints_nil0 _, ⟨fun _ => rfl, fun h => by rw [HV.out] at h; cases h⟩, HB2.out⟩
  | true =>
    have HV := Lib.hid hv
    clear hv
    go_wp2_with fail
    refine (newSolver_c w2 _ _ _ g g.owner.length (HG.out.below HB2.out) (valid_fits HV.out 0 (.inl rfl)) hS).mono ?_
    rintro e w3 ⟨sp, ba, bl, bw, ob, bq, vals, rfl, hN⟩
    have hG := ns_gok HV.out hS
    have hSv := hN.sv (HG.out.below HB2.out) hG
    have HK : Hid (Kp w3.heap.size w3 ⟨sp, ba, bl, bw, .slice ao0 g.owner.length cap0, .slice ao1 g.prio.length cap1, .slice ao2 g.succ.length cap2, .slice (some ⟨ob, 0, none⟩) g.owner.length g.owner.length, fun j => vals.getD j undef⟩ (.slice (some ⟨bq, 0, none⟩) g.owner.length g.owner.length) (nsQ g.owner.length g.owner.length)) := fun W hW => (hN.Q.only hW fun k hk e => by
      have := ownB hk
      have h1 := hN.ne
      have h2 := hN.lt
      rcases e with e | e
      · have : k = ba ∨ k = bl ∨ k = bw := e
        omega
      · omega).is (by rw [nsQ_len]; have := hG.n3; unfold maxN; omega) (mem_I64 hG.n3 fun x hx => by obtain ⟨v, e, h, -⟩ := (ns_mem g.owner.length).rg x hx; exact ⟨v, e, h⟩)
    have HN := Lib.hid hN
    have HS3 := Lib.hid hSv
    have HGO := Lib.hid hG
    clear hN hSv hG
    go_wp2_with fail
    refine (run_c w3 ⟨sp, ba, bl, bw, .slice ao0 g.owner.length cap0, .slice ao1 g.prio.length cap1, .slice ao2 g.succ.length cap2, .slice (some ⟨ob, 0, none⟩) g.owner.length g.owner.length, fun j => vals.getD j undef⟩ g g.owner.length _ _ _ _ _ _ HS3.out HGO.out HK.out (ns_mem _) (ns_lf HV.out) (ns_tot HV.out)).mono ?_
    rintro e w4 ⟨rfl, wn, ha, hl, hw, hwl, ho, hs, -⟩
    have HS4 := Lib.hid (HS3.out.after ho.orB ha hl hw (nsAl_len _ _) (nsLf_len _ _ _) hwl)
    have c6 := HS4.out.field 6 rfl
    have hB4 : Below w.heap.size w w4 := by
      have h1 := HB2.out.trans (HN.out.bx.mono HB2.out.size)
      exact h1.trans (ho.below _ (fun k hk => by have := HN.out.gt; have := HB2.out.size; have h3 : k = ba ∨ k = bl ∨ k = bw := hk; omega) h1.size)
    have hfin : Hid (IsInts w4 (.slice (some ⟨bw, 0, none⟩) g.owner.length g.owner.length) wn) := HS4.out.w.is (by have := HGO.out.n3; unfold maxN; omega) fun x hx => by
      obtain ⟨j, hj, rfl⟩ := mem_get hx
      have := hs.two j ((ns_set _ j).2 (by omega))
      unfold I64; omega
    have hsol : Hid (IsSol g wn) := ⟨fun h => (by rw [HV.out] at h; cases h), fun _ => ⟨hwl, hs.congrS fun i => ns_set _ i⟩⟩
    clear ha hl hw ho hs hwl
    go_wp2
    go_ret
    exact ⟨_, wn, rfl, hfin.out, hsol.out, hB4⟩

section
variable (g : Gm) (p : Int) (s : List Bool)
/-- Whether a position is attracted next. -/
def raB (inn : List Bool) (i : Nat) : Bool :=
  decide (g.owner.getD i 0 = p) && ((g.succ.getD i []).any fun x => inS s x && inS inn x) || decide (g.owner.getD i 0 ≠ p) && ((g.succ.getD i []).all fun x => !inS s x || inS inn x)
end

section
variable (g : Gm) (p : Int) (s : List Bool)
def raStep (inn : List Bool) (i : Nat) : List Bool := if s.getD i false && !inn.getD i false then inn.set i (raB g p s inn i) else inn
end

section
variable (g : Gm) (p : Int) (s : List Bool)
def raUpto (inn : List Bool) : Nat → List Bool
  | 0 => inn
  | k + 1 => raStep g p s (raUpto inn k) k
end

section
variable (g : Gm) (p : Int) (s : List Bool)
def raRounds (n : Nat) (t : List Bool) : Nat → List Bool
  | 0 => t
  | k + 1 => raUpto g p s (raRounds n t k) n
end

section
variable {g : Gm} {p : Int} {s : List Bool} {n : Nat} {t inn : List Bool}
theorem getB_set (l : List Bool) (i j : Nat) (x : Bool) : (l.set i x).getD j false = if i = j ∧ i < l.length then x else l.getD j false := by
  by_cases h : i < l.length
  · rw [getD_setB _ _ _ _ h]; simp [h]
  · rw [List.set_eq_of_length_le (by omega), if_neg (fun e => h e.2)]
end

section
variable {g : Gm} {p : Int} {s : List Bool} {n : Nat} {t inn : List Bool}
theorem raStep_len (inn : List Bool) (i : Nat) : (raStep g p s inn i).length = inn.length := by unfold raStep; split <;> simp
end

section
variable {g : Gm} {p : Int} {s : List Bool} {n : Nat} {t inn : List Bool}
theorem raUpto_len (inn : List Bool) (k : Nat) : (raUpto g p s inn k).length = inn.length := by
  induction k with
  | zero => rfl
  | succ k ih => rw [raUpto, raStep_len, ih]
end

section
variable {g : Gm} {p : Int} {s : List Bool} {n : Nat} {t inn : List Bool}
theorem raRounds_len (t : List Bool) (k : Nat) : (raRounds g p s n t k).length = t.length := by
  induction k with
  | zero => rfl
  | succ k ih => rw [raRounds, raUpto_len, ih]
end

section
variable {g : Gm} {p : Int} {s : List Bool} {n : Nat} {t inn : List Bool}
/-- What is attracted so far, with numbers. -/
structure RInv (g : Gm) (p : Int) (s t inn : List Bool) : Prop where
  sub : ∀ i, inn.getD i false = true → s.getD i false = true
  mem : ∀ i, t.getD i false = true → inn.getD i false = true
  rk : ∃ (ρ : Nat → Nat) (M : Nat), (∀ i, ρ i < M ∨ inn.getD i false = false) ∧ ∀ i, inn.getD i false = true → ¬ t.getD i false = true → (g.owner.getD i 0 = p → ∃ x ∈ g.succ.getD i [], inS inn x = true ∧ ρ x.toNat < ρ i) ∧ (g.owner.getD i 0 ≠ p → ∀ x ∈ g.succ.getD i [], inS s x = true → inS inn x = true ∧ ρ x.toNat < ρ i)
end

section
variable {g : Gm} {p : Int} {s : List Bool} {n : Nat} {t inn : List Bool}
theorem RInv.start (h : ∀ i, t.getD i false = true → s.getD i false = true) : RInv g p s t t :=
  ⟨h, fun _ h => h, fun _ => 0, 1, fun _ => .inl Nat.zero_lt_one, fun _ h1 h2 => absurd h1 h2⟩
end

section
variable {g : Gm} {p : Int} {s : List Bool} {n : Nat} {t inn : List Bool}
theorem RInv.step (h : RInv g p s t inn) (i : Nat) (hi : i < inn.length) : RInv g p s t (raStep g p s inn i) := by
  unfold raStep
  by_cases hc : (s.getD i false && !inn.getD i false) = true
  · rw [if_pos hc]
    simp only [Bool.and_eq_true, Bool.not_eq_true'] at hc
    cases hb : raB g p s inn i with
    | false =>
      have e : inn.set i false = inn := by
        apply List.ext_getElem (by simp)
        intro j h1 h2
        rw [List.getElem_set]
        split
        · subst i; have := hc.2; rw [getD_lt _ _ _ h2] at this; exact this.symm
        · rfl
      rw [e]; exact h
    | true =>
      obtain ⟨ρ, M, hM, hr⟩ := h.rk
      have hmono : ∀ x : Int, inS inn x = true → inS (inn.set i true) x = true ∧ x.toNat ≠ i := fun x hx => by
        unfold inS at hx ⊢
        have hne : x.toNat ≠ i := fun e => by rw [e, hc.2] at hx; cases hx
        rw [getB_set, if_neg (fun e => hne e.1.symm)]
        exact ⟨hx, hne⟩
      refine ⟨fun j hj => ?_, fun j hj => ?_, fun j => if j = i then M else ρ j, M + 1, fun j => ?_, fun j hj hjt => ?_⟩
      · rw [getB_set] at hj
        split at hj
        · rename_i e; rw [← e.1]; exact hc.1
        · exact h.sub j hj
      · rw [getB_set]
        split
        · rfl
        · exact h.mem j hj
      · by_cases e : j = i
        · subst e; simp
        · simp only [if_neg e]
          rw [getB_set, if_neg (fun x => e x.1.symm)]
          rcases hM j with x | x
          · exact .inl (by omega)
          · exact .inr x
      · by_cases e : j = i
        · subst e
          unfold raB at hb
          simp only [Bool.or_eq_true, Bool.and_eq_true, decide_eq_true_eq, List.any_eq_true, List.all_eq_true, Bool.not_eq_true'] at hb
          have low : ∀ x : Int, inS inn x = true → (if x.toNat = j then M else ρ x.toNat) < if j = j then M else ρ j := fun x hx => by
            rw [if_neg (hmono x hx).2, if_pos rfl]
            rcases hM x.toNat with y | y
            · exact y
            · unfold inS at hx; rw [y] at hx; cases hx
          refine ⟨fun ho => ?_, fun ho x hx hs => ?_⟩
          · rcases hb with ⟨_, x, hx, h1, h2⟩ | ⟨hn, _⟩
            · exact ⟨x, hx, (hmono x h2).1, low x h2⟩
            · exact absurd ho hn
          · rcases hb with ⟨hy, _⟩ | ⟨_, hall⟩
            · exact absurd hy ho
            · have h2 : inS inn x = true := by
                rcases hall x hx with y | y
                · rw [hs] at y; cases y
                · exact y
              exact ⟨(hmono x h2).1, low x h2⟩
        · rw [getB_set, if_neg (fun x => e x.1.symm)] at hj
          obtain ⟨k1, k2⟩ := hr j hj hjt
          refine ⟨fun ho => ?_, fun ho x hx hs => ?_⟩
          · obtain ⟨x, hx, h1, h2⟩ := k1 ho
            exact ⟨x, hx, (hmono x h1).1, by simp only [if_neg (hmono x h1).2, if_neg e]; exact h2⟩
          · obtain ⟨h1, h2⟩ := k2 ho x hx hs
            exact ⟨(hmono x h1).1, by simp only [if_neg (hmono x h1).2, if_neg e]; exact h2⟩
  · rw [if_neg hc]; exact h
end

section
variable {g : Gm} {p : Int} {s : List Bool} {n : Nat} {t inn : List Bool}
theorem RInv.upto (h : RInv g p s t inn) (k : Nat) (hk : k ≤ inn.length) : RInv g p s t (raUpto g p s inn k) := by
  induction k with
  | zero => exact h
  | succ k ih => exact (ih (by omega)).step k (by rw [raUpto_len]; omega)
end

section
variable {g : Gm} {p : Int} {s : List Bool} {n : Nat} {t inn : List Bool}
theorem RInv.rounds (h : RInv g p s t t) (hn : n ≤ t.length) (k : Nat) : RInv g p s t (raRounds g p s n t k) := by
  induction k with
  | zero => exact h
  | succ k ih => exact ih.upto n (by rw [raRounds_len]; exact hn)
end

section
variable {g : Gm} {p : Int} {s : List Bool} {n : Nat} {t inn : List Bool}
theorem count_setT (l : List Bool) (i : Nat) (h : i < l.length) (hf : l.getD i false = false) : (l.set i true).count true = l.count true + 1 := by
  have : l[i] = false := by rwa [getD_lt _ _ _ h] at hf
  rw [List.count_set h, this]; simp
end

section
variable {g : Gm} {p : Int} {s : List Bool} {n : Nat} {t inn : List Bool}
theorem raStep_count (inn : List Bool) (i : Nat) (hi : i < inn.length) : raStep g p s inn i = inn ∨ (raStep g p s inn i).count true = inn.count true + 1 := by
  unfold raStep
  by_cases hc : (s.getD i false && !inn.getD i false) = true
  · rw [if_pos hc]
    simp only [Bool.and_eq_true, Bool.not_eq_true'] at hc
    cases hb : raB g p s inn i with
    | false =>
      refine .inl ?_
      apply List.ext_getElem (by simp)
      intro j h1 h2
      rw [List.getElem_set]
      split
      · subst i; have := hc.2; rw [getD_lt _ _ _ h2] at this; exact this.symm
      · rfl
    | true => exact .inr (count_setT inn i hi hc.2)
  · rw [if_neg hc]; exact .inl rfl
end

section
variable {g : Gm} {p : Int} {s : List Bool} {n : Nat} {t inn : List Bool}
theorem raUpto_count (inn : List Bool) (k : Nat) (hk : k ≤ inn.length) : inn.count true ≤ (raUpto g p s inn k).count true ∧ ((raUpto g p s inn k).count true = inn.count true → ∀ j, j ≤ k → raUpto g p s inn j = inn) := by
  induction k with
  | zero => exact ⟨Nat.le_refl _, fun _ j hj => by rw [show j = 0 by omega]; rfl⟩
  | succ k ih =>
    obtain ⟨i1, i2⟩ := ih (by omega)
    have hs := raStep_count (g := g) (p := p) (s := s) (raUpto g p s inn k) k (by rw [raUpto_len]; omega)
    rw [raUpto]
    rcases hs with e | e
    · rw [e]
      refine ⟨i1, fun hc j hj => ?_⟩
      by_cases hjk : j = k + 1
      · subst hjk; rw [raUpto, e]; exact i2 hc k (Nat.le_refl _)
      · exact i2 hc j (by omega)
    · rw [e]; exact ⟨by omega, fun hc => by omega⟩
end

section
variable {g : Gm} {p : Int} {s : List Bool} {n : Nat} {t inn : List Bool}
/-- Either nothing changes any more, or at least as many as there were rounds are in. -/
theorem raRounds_count (hn : n = t.length) (k : Nat) : (∀ j, j ≤ n → raUpto g p s (raRounds g p s n t k) j = raRounds g p s n t k) ∨ k ≤ (raRounds g p s n t k).count true := by
  induction k with
  | zero => exact .inr (Nat.zero_le _)
  | succ k ih =>
    rcases ih with h | h
    · have e : raRounds g p s n t (k + 1) = raRounds g p s n t k := h n (Nat.le_refl _)
      rw [e]; exact .inl h
    · obtain ⟨c1, c2⟩ := raUpto_count (g := g) (p := p) (s := s) (raRounds g p s n t k) n (by rw [raRounds_len]; omega)
      by_cases hc : (raUpto g p s (raRounds g p s n t k) n).count true = (raRounds g p s n t k).count true
      · have hj := c2 hc
        have e : raRounds g p s n t (k + 1) = raRounds g p s n t k := hj n (Nat.le_refl _)
        rw [e]; exact .inl hj
      · exact .inr (by rw [raRounds]; omega)
end

section
variable {g : Gm} {p : Int} {s : List Bool} {n : Nat} {t inn : List Bool}
/-- The set of the reference is what is attracted. -/
theorem raRounds_att (hn : n = t.length) (hs : s.length = n) (hsub : ∀ i, t.getD i false = true → s.getD i false = true) (hg : ∀ i, i < n → ∀ x ∈ g.succ.getD i [], ∃ v : Nat, x = v ∧ v < n) :
    AttIn g p (fun i => s.getD i false = true) (fun i => t.getD i false = true) (fun i => (raRounds g p s n t n).getD i false = true) := by
  have hI := (RInv.start (g := g) (p := p) hsub).rounds (n := n) (by omega) n
  have hlt : ∀ i, s.getD i false = true → i < n := fun i hi => by
    rcases Nat.lt_or_ge i n with h | h
    · exact h
    · simp [List.getD, List.getElem?_eq_none (by omega : s.length ≤ i)] at hi
  have hlen := raRounds_len (g := g) (p := p) (s := s) (n := n) t n
  have hfix : ∀ i, s.getD i false = true → ¬ (raRounds g p s n t n).getD i false = true → raB g p s (raRounds g p s n t n) i = false := fun i hi hni => by
    have hin := hlt i hi
    rcases raRounds_count (g := g) (p := p) (s := s) hn n with h | h
    · have h1 := h i (by omega)
      have h2 := h (i + 1) (by omega)
      rw [raUpto, h1] at h2
      unfold raStep at h2
      rw [Bool.not_eq_true] at hni
      rw [if_pos (by rw [hi, hni]; rfl)] at h2
      have h3 : ((raRounds g p s n t n).set i (raB g p s (raRounds g p s n t n) i)).getD i false = (raRounds g p s n t n).getD i false := by rw [h2]
      rw [getB_set, if_pos ⟨rfl, by omega⟩, hni] at h3
      exact h3
    · exfalso
      refine hni ?_
      have hall : (raRounds g p s n t n).count true = (raRounds g p s n t n).length := by
        have := List.count_le_length (l := raRounds g p s n t n) (a := true)
        omega
      rw [List.count_eq_length] at hall
      rw [getD_lt _ _ _ (by omega)]
      exact (hall _ (List.getElem_mem (by omega))).symm
  obtain ⟨ρ, M, hM, hr⟩ := hI.rk
  refine ⟨hI.sub, hI.mem, ⟨ρ, fun i hi hit => ?_⟩, fun i hi hn2 ho j he hj => ?_, fun i hi hn2 ho => ?_⟩
  · obtain ⟨k1, k2⟩ := hr i hi hit
    refine ⟨fun ho => ?_, fun ho j he hj => ?_⟩
    · obtain ⟨x, hx, h1, h2⟩ := k1 ho
      obtain ⟨v, rfl, hv⟩ := hg i (hlt i (hI.sub i hi)) x hx
      exact ⟨v, hx, h1, .inr h2⟩
    · obtain ⟨h1, h2⟩ := k2 ho j he hj
      exact ⟨h1, .inr h2⟩
  · have := hfix i hi hn2
    unfold raB at this
    rw [Bool.or_eq_false_iff] at this
    have h1 := this.1
    unfold own at ho
    rw [ho] at h1
    simp only [decide_true, Bool.true_and, List.any_eq_false, Bool.and_eq_true, not_and, Bool.not_eq_true] at h1
    have h2 := h1 j he (hI.sub j hj)
    unfold inS at h2
    rw [Int.toNat_natCast, hj] at h2; cases h2
  · have := hfix i hi hn2
    unfold raB at this
    rw [Bool.or_eq_false_iff] at this
    have h1 := this.2
    unfold own at ho
    rw [decide_eq_true ho, Bool.true_and, List.all_eq_false] at h1
    obtain ⟨x, hx, h2⟩ := h1
    obtain ⟨v, rfl, hv⟩ := hg i (hlt i hi) x hx
    simp only [Bool.or_eq_true, Bool.not_eq_true', not_or, Bool.not_eq_false, Bool.not_eq_true] at h2
    unfold inS at h2
    rw [Int.toNat_natCast] at h2
    exact ⟨v, hx, h2.1, by rw [h2.2]; simp⟩
end

def withoutL (a b : List Bool) : List Bool := (List.range a.length).map fun i => a.getD i false && !b.getD i false

def orL (a b : List Bool) (n : Nat) : List Bool := (List.range n).map fun i => a.getD i false || b.getD i false

def leastS (g : Gm) (s : List Bool) (n : Nat) : Int := (List.range n).foldl (fun m i => if s.getD i false then min m (g.prio.getD i 0) else m) 30001

def targetS (g : Gm) (s : List Bool) (k : Int) (n : Nat) : List Bool := (List.range n).map fun i => s.getD i false && decide (g.prio.getD i 0 = k)

/-- The positions from which the controller wins. -/
def regF (g : Gm) (n : Nat) : Nat → List Bool → List Bool
  | 0, _ => List.replicate n false
  | f + 1, s =>
    if s.any id then
      let k := leastS g s n
      let p := k % 2
      let rest := withoutL s (raRounds g p s n (targetS g s k n) n)
      let won := regF g n f rest
      let lost := if p = 0 then withoutL rest won else won
      if lost.any id then
        let away := raRounds g (1 - p) s n lost n
        let out := regF g n f (withoutL s away)
        if p = 1 then orL out away n else out
      else if p = 0 then s else List.replicate n false
    else List.replicate n false

section
variable {g : Gm} {n : Nat} {s : List Bool}
theorem withoutL_len (a b : List Bool) : (withoutL a b).length = a.length := by simp [withoutL]
end

section
variable {g : Gm} {n : Nat} {s : List Bool}
theorem withoutL_get (a b : List Bool) (i : Nat) : (withoutL a b).getD i false = true ↔ a.getD i false = true ∧ ¬ b.getD i false = true := by
  by_cases h : i < a.length
  · simp [withoutL, List.getD, h]
  · have h1 : a.getD i false = false := by simp [List.getD, List.getElem?_eq_none (by omega : a.length ≤ i)]
    have h2 : (withoutL a b).getD i false = false := by simp [List.getD, List.getElem?_eq_none (by rw [withoutL_len]; omega : (withoutL a b).length ≤ i)]
    rw [h1, h2]; simp
end

section
variable {g : Gm} {n : Nat} {s : List Bool}
theorem orL_len (a b : List Bool) (n : Nat) : (orL a b n).length = n := by simp [orL]
end

section
variable {g : Gm} {n : Nat} {s : List Bool}
theorem orL_get (a b : List Bool) (n i : Nat) (h : i < n) : (orL a b n).getD i false = (a.getD i false || b.getD i false) := by simp [orL, h]
end

section
variable {g : Gm} {n : Nat} {s : List Bool}
theorem targetS_len (k : Int) : (targetS g s k n).length = n := by simp [targetS]
end

section
variable {g : Gm} {n : Nat} {s : List Bool}
theorem targetS_get (k : Int) (i : Nat) : (targetS g s k n).getD i false = true ↔ i < n ∧ s.getD i false = true ∧ g.prio.getD i 0 = k := by
  by_cases h : i < n
  · simp [targetS, List.getD, h]
  · have h2 : (targetS g s k n).getD i false = false := by simp [List.getD, List.getElem?_eq_none (by rw [targetS_len]; omega : (targetS g s k n).length ≤ i)]
    rw [h2]
    exact ⟨fun e => (by cases e), fun e => absurd e.1 h⟩
end

section
variable {g : Gm} {n : Nat} {s : List Bool}
theorem leastS_succ (g : Gm) (s : List Bool) (k : Nat) : leastS g s (k + 1) = if s.getD k false then min (leastS g s k) (g.prio.getD k 0) else leastS g s k := by
  simp [leastS, List.range_succ]
end

section
variable {g : Gm} {n : Nat} {s : List Bool}
theorem leastS_le (g : Gm) (s : List Bool) (k : Nat) : ∀ i, i < k → s.getD i false = true → leastS g s k ≤ g.prio.getD i 0 := by
  induction k with
  | zero => intro i hi; omega
  | succ k ih =>
    intro i hi hs
    rw [leastS_succ]
    by_cases e : i = k
    · subst e; rw [if_pos hs]; omega
    · have := ih i (by omega) hs
      split <;> omega
end

section
variable {g : Gm} {n : Nat} {s : List Bool}
theorem leastS_is (g : Gm) (s : List Bool) (k : Nat) : leastS g s k = 30001 ∨ ∃ i, i < k ∧ s.getD i false = true ∧ leastS g s k = g.prio.getD i 0 := by
  induction k with
  | zero => exact .inl rfl
  | succ k ih =>
    rw [leastS_succ]
    by_cases hs : s.getD k false = true
    · rw [if_pos hs]
      rcases (by omega : min (leastS g s k) (g.prio.getD k 0) = g.prio.getD k 0 ∨ min (leastS g s k) (g.prio.getD k 0) = leastS g s k) with h | h
      · exact .inr ⟨k, by omega, hs, h⟩
      · rw [h]
        rcases ih with h' | ⟨i, h1, h2, h3⟩
        · exact .inl h'
        · exact .inr ⟨i, by omega, h2, h3⟩
    · rw [if_neg hs]
      rcases ih with h' | ⟨i, h1, h2, h3⟩
      · exact .inl h'
      · exact .inr ⟨i, by omega, h2, h3⟩
end

section
variable {g : Gm} {n : Nat} {s : List Bool}
theorem any_iff (l : List Bool) : l.any id = true ↔ ∃ i, l.getD i false = true := by
  rw [List.any_eq_true]
  constructor
  · rintro ⟨x, hx, h⟩
    obtain ⟨i, hi, rfl⟩ := List.getElem_of_mem hx
    exact ⟨i, by rw [getD_lt _ _ _ hi]; exact h⟩
  · rintro ⟨i, h⟩
    have hi : i < l.length := set_lt h
    exact ⟨l[i], List.getElem_mem hi, by rw [getD_lt _ _ _ hi] at h; exact h⟩
end

section
variable {g : Gm} {n : Nat} {s : List Bool}
theorem count_less {a b : List Bool} (hl : a.length = b.length) (hsub : ∀ i, a.getD i false = true → b.getD i false = true) {i : Nat} (hb : b.getD i false = true) (ha : ¬ a.getD i false = true) : a.count true < b.count true := by
  induction a generalizing b i with
  | nil => have := set_lt hb; simp at hl; omega
  | cons x a ih =>
    cases b with
    | nil => simp at hl
    | cons y b =>
      have hl' : a.length = b.length := by simpa using hl
      have hs' : ∀ j, a.getD j false = true → b.getD j false = true := fun j hj => by have := hsub (j + 1); simp only [List.getD_cons_succ] at this; exact this hj
      have h0 := hsub 0
      simp only [List.getD_cons_zero] at h0
      have hle : a.count true ≤ b.count true := by
        clear ih ha hb hsub hl
        induction a generalizing b with
        | nil => simp
        | cons x a iha =>
          cases b with
          | nil => simp at hl'
          | cons y b =>
            have h1 := iha (b := b) (by simpa using hl') (fun j hj => by have := hs' (j + 1); simp only [List.getD_cons_succ] at this; exact this hj)
            have h2 := hs' 0
            simp only [List.getD_cons_zero] at h2
            rw [List.count_cons, List.count_cons]
            cases x <;> cases y <;> simp at h2 ⊢ <;> omega
      rw [List.count_cons, List.count_cons]
      cases i with
      | zero =>
        simp only [List.getD_cons_zero] at ha hb
        subst hb
        cases x
        · simp; omega
        · exact absurd rfl ha
      | succ i =>
        simp only [List.getD_cons_succ] at ha hb
        have := ih hl' hs' hb ha
        cases x <;> cases y <;> simp at h0 ⊢ <;> omega
end

section
variable {g : Gm} {n : Nat} {s : List Bool}
/-- The winners by the reference. -/
def winF (l : List Bool) (i : Nat) : Int := if l.getD i false then 0 else 1
end

section
variable {g : Gm} {n : Nat} {s : List Bool}
theorem regF_sol (hrg : ∀ i, i < n → ∀ x ∈ g.succ.getD i [], ∃ v : Nat, x = v ∧ v < n) (how : ∀ i, i < n → own g i = 0 ∨ own g i = 1) (hpr : ∀ i, i < n → 0 ≤ g.prio.getD i 0 ∧ g.prio.getD i 0 ≤ 30000) :
    ∀ (f : Nat) (s : List Bool), s.length = n → s.count true < f → Total g (setOf s) → (regF g n f s).length = n ∧ (∀ i, (regF g n f s).getD i false = true → s.getD i false = true) ∧ Sol g (setOf s) (winF (regF g n f s)) := by
  intro f
  induction f with
  | zero => intro s _ h; omega
  | succ f ih =>
    intro s hs hc hT
    have hlt : ∀ i, setOf s i → i < n := fun i hi => by have := set_lt hi; omega
    have hoS : ∀ i, setOf s i → own g i = 0 ∨ own g i = 1 := fun i hi => how i (hlt i hi)
    rw [regF]
    by_cases hany : s.any id = true
    · rw [if_pos hany]
      obtain ⟨i0, hi0⟩ := (any_iff s).1 hany
      have hi0n := hlt i0 hi0
      generalize hk : leastS g s n = k
      have hkle : ∀ i, setOf s i → k ≤ pri g i := fun i hi => by rw [← hk]; exact leastS_le g s n i (hlt i hi) hi
      obtain ⟨i1, hi1, hs1, hk1⟩ : ∃ i, i < n ∧ s.getD i false = true ∧ k = g.prio.getD i 0 := by
        rcases leastS_is g s n with h | h
        · have h1 := hkle i0 hi0
          have h2 := (hpr i0 hi0n).2
          unfold pri at h1
          omega
        · rw [hk] at h; exact h
      have hk0 : 0 ≤ k := by rw [hk1]; exact (hpr i1 hi1).1
      have hp : k % 2 = 0 ∨ k % 2 = 1 := by omega
      have hA := raRounds_att (g := g) (p := k % 2) (s := s) (n := n) (t := targetS g s k n) (targetS_len k).symm hs (fun i hi => ((targetS_get k i).1 hi).2.1) hrg
      generalize hAl : raRounds g (k % 2) s n (targetS g s k n) n = A at hA
      have hrest : ∀ i, setOf (withoutL s A) i ↔ setOf s i ∧ ¬ A.getD i false = true := fun i => withoutL_get s A i
      have hRlen : (withoutL s A).length = n := by rw [withoutL_len, hs]
      have hRT : Total g (setOf (withoutL s A)) := by
        have e : setOf (withoutL s A) = fun i => setOf s i ∧ ¬ A.getD i false = true := funext fun i => propext (hrest i)
        rw [e]; exact hA.total hT
      have hi1A : A.getD i1 false = true := hA.mem i1 ((targetS_get k i1).2 ⟨hi1, hs1, hk1.symm⟩)
      have hRc : (withoutL s A).count true < s.count true := count_less (by rw [hRlen, hs]) (fun i hi => ((hrest i).1 hi).1) hs1 (fun h => ((hrest i1).1 h).2 hi1A)
      obtain ⟨w1, w3, w2⟩ := ih (withoutL s A) hRlen (by omega) hRT
      generalize hW : regF g n f (withoutL s A) = won at w1 w2 w3
      have hsolR : Sol g (fun i => setOf s i ∧ ¬ A.getD i false = true) (winF won) := w2.congrS hrest
      have low : ∀ t, (targetS g s k n).getD t false = true → ∀ v, setOf s v → Lost (k % 2) (pri g v) → pri g t < pri g v := fun t ht v hv hl => by
        have h1 := ((targetS_get k t).1 ht).2.2
        have h2 := hkle v hv
        unfold pri Lost at *
        rw [h1]
        have : k ≠ g.prio.getD v 0 := fun e => hl (by rw [e])
        omega
      simp only [hAl, hW]
      generalize hL : (if k % 2 = 0 then withoutL (withoutL s A) won else won) = lost
      have hLlen : lost.length = n := by rw [← hL]; split <;> simp [withoutL_len, hs, w1]
      have hLost : ∀ i, (setOf s i ∧ ¬ A.getD i false = true) → (lost.getD i false = true ↔ winF won i = 1 - k % 2) := fun i hi => by
        rw [← hL]
        unfold winF
        rcases hp with e | e
        · rw [e]
          simp only [if_true]
          rw [withoutL_get, withoutL_get]
          constructor
          · intro h; rw [if_neg h.2]; rfl
          · intro h; exact ⟨hi, fun hh => by rw [if_pos hh] at h; cases h⟩
        · rw [e]
          rw [if_neg (by omega)]
          constructor
          · intro h; rw [if_pos h]; rfl
          · intro h
            cases hh : won.getD i false
            · rw [hh] at h; cases h
            · rfl
      have hLsub : ∀ i, lost.getD i false = true → setOf s i ∧ ¬ A.getD i false = true := fun i hi => by
        rw [← hL] at hi
        split at hi
        · exact (withoutL_get s A i).1 ((withoutL_get _ _ i).1 hi).1
        · exact (hrest i).1 (w3 i hi)
      have hLiff : ∀ i, lost.getD i false = true ↔ (setOf s i ∧ ¬ A.getD i false = true) ∧ winF won i = 1 - k % 2 := fun i =>
        ⟨fun h => ⟨hLsub i h, (hLost i (hLsub i h)).1 h⟩, fun h => (hLost i h.1).2 h.2⟩
      by_cases hla : lost.any id = true
      · rw [if_pos hla]
        obtain ⟨i2, hi2⟩ := (any_iff lost).1 hla
        have hq : 1 - k % 2 = 0 ∨ 1 - k % 2 = 1 := by omega
        have hA2 := raRounds_att (g := g) (p := 1 - k % 2) (s := s) (n := n) (t := lost) hLlen.symm hs (fun i hi => (hLsub i hi).1) hrg
        generalize hA2l : raRounds g (1 - k % 2) s n lost n = away at hA2
        have hawl : away.length = n := by rw [← hA2l, raRounds_len, hLlen]
        have hD := dom_lost (T := fun i => (targetS g s k n).getD i false = true) hA hq (by omega) hp hsolR hLiff hA2 hoS
        have hrest2 : ∀ i, setOf (withoutL s away) i ↔ setOf s i ∧ ¬ away.getD i false = true := fun i => withoutL_get s away i
        have hT2 : Total g (setOf (withoutL s away)) := by
          have e : setOf (withoutL s away) = fun i => setOf s i ∧ ¬ away.getD i false = true := funext fun i => propext (hrest2 i)
          rw [e]; exact hA2.total hT
        have hi2a : away.getD i2 false = true := hA2.mem i2 hi2
        have hc2 : (withoutL s away).count true < s.count true := count_less (by rw [withoutL_len]) (fun i hi => ((hrest2 i).1 hi).1) (hA2.sub i2 hi2a) (fun h => ((hrest2 i2).1 h).2 hi2a)
        obtain ⟨o1, o2, o3⟩ := ih (withoutL s away) (by rw [withoutL_len, hs]) (by omega) hT2
        generalize regF g n f (withoutL s away) = out at o1 o2 o3
        have osub : ∀ i, out.getD i false = true → s.getD i false = true ∧ ¬ away.getD i false = true := fun i hi => (hrest2 i).1 (o2 i hi)
        rcases hp with e | e
        · rw [e] at hD hA2
          rw [if_neg (by omega)]
          refine ⟨o1, fun i hi => (osub i hi).1, Sol.step (q := 1) hD (.inr rfl) (fun i hi hn ho j he => hA2.mine i hi hn ho j he) (o3.congrS hrest2) (fun i hi => ?_) hoS⟩
          unfold winF
          rw [if_neg (fun h => (osub i h).2 hi)]
        · rw [e] at hD hA2
          rw [if_pos (by omega)]
          refine ⟨orL_len _ _ _, fun i hi => ?_, Sol.step (q := 0) hD (.inl rfl) (fun i hi hn ho j he => hA2.mine i hi hn ho j he) ((o3.congrS hrest2).congr fun i hi => ?_) (fun i hi => ?_) hoS⟩
          · have hin : i < n := by have := set_lt hi; rw [orL_len] at this; exact this
            rw [orL_get _ _ _ _ hin, Bool.or_eq_true] at hi
            rcases hi with h | h
            · exact (osub i h).1
            · exact hA2.sub i h
          · have hin := hlt i hi.1
            unfold winF
            rw [orL_get _ _ _ _ hin]
            have : away.getD i false = false := by rw [← Bool.not_eq_true]; exact hi.2
            rw [this, Bool.or_false]
          · have hin := hlt i (hA2.sub i hi)
            unfold winF
            rw [orL_get _ _ _ _ hin]
            have : away.getD i false = true := hi
            rw [this]; simp
      · rw [if_neg hla]
        have hno : ∀ i, setOf s i → ¬ A.getD i false = true → winF won i = k % 2 := fun i hi hn => by
          have h1 : ¬ lost.getD i false = true := fun h => hla ((any_iff lost).2 ⟨i, h⟩)
          rw [hLost i ⟨hi, hn⟩] at h1
          have := hsolR.two i ⟨hi, hn⟩
          omega
        have hD := dom_all hA hp low hT hsolR hno
        rcases hp with e | e
        · rw [e] at hD
          rw [if_pos e]
          refine ⟨hs, fun i hi => hi, Sol.all hD (.inl rfl) fun i hi => ?_⟩
          unfold winF
          exact if_pos hi
        · rw [e] at hD
          rw [if_neg (by omega)]
          refine ⟨by simp, fun i hi => ?_, Sol.all hD (.inr rfl) fun i hi => ?_⟩
          · have := set_lt (al := List.replicate n false) hi
            simp at this
            simp [List.getD, this] at hi
          · have := hlt i hi
            unfold winF
            simp [List.getD, this]
    · rw [if_neg hany]
      refine ⟨by simp, fun i hi => ?_, Sol.empty fun i hi => hany ((any_iff s).2 ⟨i, hi⟩)⟩
      have := set_lt (al := List.replicate n false) hi
      simp at this
      simp [List.getD, this] at hi
end

/-- The reference's answer. -/
def solR (g : Gm) : List Int := if validB g then (List.range g.owner.length).map (winF (regF g g.owner.length (g.owner.length + 1) (List.replicate g.owner.length true))) else []

theorem solR_is (g : Gm) : IsSol g (solR g) := by
  refine ⟨fun h => by unfold solR; rw [h]; rfl, fun h => ?_⟩
  have F := valid_fits h 0 (.inl rfl)
  have hset : ∀ i, setOf (List.replicate g.owner.length true) i ↔ i < g.owner.length := fun i => by
    constructor
    · intro hi; have := set_lt hi; simpa using this
    · intro hi; simp [setOf, List.getD, hi]
  have hT : Total g (setOf (List.replicate g.owner.length true)) := fun i hi => by
    have hi' := (hset i).1 hi
    obtain ⟨x, hx⟩ := List.exists_mem_of_ne_nil _ (F.ne i hi')
    obtain ⟨v, rfl, hv⟩ := valid_rg h i hi' x hx
    exact ⟨v, hx, (hset v).2 hv⟩
  obtain ⟨h1, -, h2⟩ := regF_sol (n := g.owner.length) (valid_rg h) (valid_own h) (valid_pri h) (g.owner.length + 1) (List.replicate g.owner.length true) (by simp) (by rw [List.count_replicate]; simp) hT
  unfold solR
  rw [if_pos h]
  refine ⟨by simp, (h2.congrS hset).congr fun i hi => ?_⟩
  simp [List.getD, hi]

theorem IsSol.eq {g : Gm} {l : List Int} (h : IsSol g l) : l = solR g := h.unique (solR_is g)

theorem solR_len {g : Gm} (hv : validB g = true) : (solR g).length = g.owner.length := ((solR_is g).2 hv).1

/-- A game given, in its box. -/
theorem boxGame {w : World} {v0 v1 v2 : Value} : (w.alloc (Obj.cells #[v0, v1, v2] 25)).heap[w.heap.size]? = some (Obj.cells #[v0, v1, v2] 25 (0, 0)) ∧ Below w.heap.size w (w.alloc (Obj.cells #[v0, v1, v2] 25)) := ⟨heap_alloc_new w _, bel_box _⟩

theorem Plus.mapTo {r s : Nat → Nat → Prop} (f : Nat → Nat) (h : ∀ a b, r a b → s (f a) (f b)) {a b : Nat} (k : Plus r a b) : Plus s (f a) (f b) := by
  induction k with
  | one k => exact .one (h _ _ k)
  | more k _ ih => exact .more (h _ _ k) ih

theorem okB_iff (g : Gm) (i : Nat) : okB g i = true ↔ (0 ≤ g.owner.getD i 0 ∧ g.owner.getD i 0 ≤ 1) ∧ (0 ≤ g.prio.getD i 0 ∧ g.prio.getD i 0 ≤ 30000) ∧ g.succ.getD i [] ≠ [] ∧ ∀ x ∈ g.succ.getD i [], 0 ≤ x ∧ x < g.owner.length := by
  unfold okB inB
  simp only [Bool.and_eq_true, decide_eq_true_eq, List.all_eq_true, Bool.not_eq_true', List.isEmpty_eq_false_iff]
  constructor
  · rintro ⟨⟨⟨a, b⟩, c⟩, d⟩
    exact ⟨a, b, c, fun x hx => ⟨(d x hx).1, by have := (d x hx).2; omega⟩⟩
  · rintro ⟨a, b, c, d⟩
    exact ⟨⟨⟨a, b⟩, c⟩, fun x hx => ⟨(d x hx).1, by have := (d x hx).2; omega⟩⟩

theorem valid_at {g : Gm} (h : validB g = true) (i : Nat) (hi : i < g.owner.length) : (0 ≤ g.owner.getD i 0 ∧ g.owner.getD i 0 ≤ 1) ∧ (0 ≤ g.prio.getD i 0 ∧ g.prio.getD i 0 ≤ 30000) ∧ g.succ.getD i [] ≠ [] ∧ ∀ x ∈ g.succ.getD i [], 0 ≤ x ∧ x < g.owner.length := by
  obtain ⟨a, b, c⟩ := valid_lens h
  exact (okB_iff g i).1 ((validB_iff g a b c).1 h i hi)

/-- The same win with other names of the players and other priorities. -/
theorem WinsBy.turn {g g' : Gm} {p q : Int} {S D : Nat → Prop} {σ : Nat → Nat} (h : WinsBy g p S D σ)
    (ho : ∀ i, D i → (own g' i = q ↔ own g i = p)) (he : ∀ u v, (Edge g' u v ↔ Edge g u v))
    (hl : ∀ v, D v → Lost q (pri g' v) → Lost p (pri g v)) (hp : ∀ u v, D u → D v → pri g' v ≤ pri g' u → pri g v ≤ pri g u) : WinsBy g' q S D σ := by
  refine ⟨h.sub, fun i hi e => ?_, fun i hi hne j hj hS => h.other i hi (fun e => hne ((ho i hi).2 e)) j ((he i j).1 hj) hS, fun v hv hlo hc => h.free v hv (hl v hv hlo) (hc.mapTo id fun a b ⟨ha, hb, h1, k1, k2, hst⟩ => ⟨ha, hb, (he a b).1 h1, hp a v ha hv k1, hp b v hb hv k2, fun e => hst ((ho a ha).2 e)⟩)⟩
  obtain ⟨h1, h2⟩ := h.mine i hi ((ho i hi).1 e)
  exact ⟨(he _ _).2 h1, h2⟩

/-- The game with exchanged players. -/
def swapG (g : Gm) : Gm := ⟨g.owner.map (1 - ·), g.prio.map (· + 1), g.succ⟩

theorem getD_map0 (l : List Int) (f : Int → Int) (i : Nat) (h : i < l.length) : (l.map f).getD i 0 = f (l.getD i 0) := by simp [List.getD, h]

theorem swap_valid {g : Gm} (hv : validB g = true) (hp : ∀ i, i < g.owner.length → g.prio.getD i 0 ≤ 29999) : validB (swapG g) = true := by
  obtain ⟨a, b, c⟩ := valid_lens hv
  refine (validB_iff _ (by simpa [swapG] using a) (by simp [swapG, b]) (by simp [swapG, c])).2 fun j hj => (okB_iff _ _).2 ?_
  have hj' : j < g.owner.length := by simpa [swapG] using hj
  have h := valid_at hv j hj'
  have h2 := hp j hj'
  unfold swapG
  simp only [List.length_map]
  rw [getD_map0 _ _ _ hj', getD_map0 _ _ _ (by omega)]
  exact ⟨by omega, by omega, h.2.2⟩

theorem swap_sol {g : Gm} (hv : validB g = true) (hp : ∀ i, i < g.owner.length → g.prio.getD i 0 ≤ 29999) : solR (swapG g) = (solR g).map (1 - ·) := by
  obtain ⟨a, b, c⟩ := valid_lens hv
  have hs := ((solR_is g).2 hv).2
  have hlen := solR_len hv
  refine (IsSol.eq (g := swapG g) ⟨fun h => ?_, fun _ => ⟨by simp [swapG, hlen], ?_⟩⟩).symm
  · rw [swap_valid hv hp] at h; cases h
  have ho : ∀ i, i < g.owner.length → own (swapG g) i = 1 - own g i := fun i hi => by unfold own swapG; rw [getD_map0 _ _ _ hi]
  have hpr : ∀ i, i < g.owner.length → pri (swapG g) i = pri g i + 1 := fun i hi => by unfold pri swapG; rw [getD_map0 _ _ _ (by omega)]
  have hw : ∀ i, i < g.owner.length → ((solR g).map (1 - ·)).getD i 0 = 1 - (solR g).getD i 0 := fun i hi => getD_map0 _ _ _ (by omega)
  have hl : (swapG g).owner.length = g.owner.length := by simp [swapG]
  rw [hl]
  have key : ∀ p : Int, p = 0 ∨ p = 1 → Dom (swapG g) p (fun i => i < g.owner.length) (fun i => i < g.owner.length ∧ ((solR g).map (1 - ·)).getD i 0 = p) := fun p hp => by
    obtain ⟨σ, hD⟩ := hs.dom (p := 1 - p) (by omega)
    have hW : Dom (swapG g) p (fun i => i < g.owner.length) (fun i => i < g.owner.length ∧ (solR g).getD i 0 = 1 - p) :=
      ⟨σ, hD.turn (fun i hi => by rw [ho i hi.1]; omega) (fun u v => Iff.rfl) (fun v hv => by rw [hpr v hv.1]; unfold Lost; omega) (fun u v hu hv => by rw [hpr u hu.1, hpr v hv.1]; omega)⟩
    exact hW.congr fun i => ⟨fun ⟨h1, h2⟩ => ⟨h1, by rw [hw i h1]; omega⟩, fun ⟨h1, h2⟩ => ⟨h1, by rw [hw i h1] at h2; omega⟩⟩
  refine ⟨fun i hi => ?_, key 0 (.inl rfl), key 1 (.inr rfl)⟩
  have := hs.two i hi
  rw [hw i hi]; omega

theorem app_ints {ops : Array Oper} {rest : List Oper} {o : Oper} {a : Act} {Q : Exit → Act → World → Prop} {w : World} (hgd : o.guard = none) (s x : Operand)
    (ho : o.op = .call { callee := .builtin .append, args := #[s, x], argTypes := #[22, 22] })
    (base : Nat) (v v2 : Value) (l l2 : List Int) (hown : OI w base v l) (hs : a.eval s = v) (hsrc : IsInts w v2 l2) (hx : a.eval x = v2)
    (hn : l.length + l2.length ≤ 17592186043904) (hbase : base ≤ w.heap.size)
    (h : ∀ v' w', OI w' base v' (l ++ l2) → w.grownBy w' v.ownBlock → Moved w v v' → wpList Try.prog ops Q rest (a.put o.dst v') w') :
    wpList Try.prog ops Q (o :: rest) a w := by
  obtain ⟨⟨ao, cap, b, off, rfl, hsrc⟩, -⟩ := hsrc
  refine wpList_appA hgd s x _ _ 8 _ ho Try.underlying22 info_int rfl base v l.length _ hs hown ao cap b off l2.length (ivF l2) hx hsrc (fun _ => rfl) (by omega) (by decide) hbase fun v' w' h1 h2 h3 => h v' w' ?_ h2 h3
  have e : (List.range l2.length).map (ivF l2) = l2.map (Value.int .i64) := by
    apply List.ext_getElem (by simp)
    intro j h1 h2
    have : j < l2.length := by simpa using h1
    simp [ivF, this]
  rw [e] at h1
  unfold OI
  simpa using h1

theorem OI_empty0 (w : World) : OI (w.alloc (.cells #[] 3)) w.heap.size (.slice (some ⟨w.heap.size, 0, none⟩) 0 0) [] :=
  World.ownsRow_made w #[] 0 (Nat.le_refl _) (by simp [maxLen]) rfl

/-- A copy of rows. -/
theorem app_rows {ops : Array Oper} {rest : List Oper} {o : Oper} {a : Act} {Q : Exit → Act → World → Prop} {w : World} (hgd : o.guard = none) (s x : Operand)
    (ho : o.op = .call { callee := .builtin .append, args := #[s, x], argTypes := #[23, 23] })
    (base : Nat) (v : Value) (hown : w.ownsRow base 22 1 v 0 []) (hs : a.eval s = v) (ao : Option Addr) (cap b off n : Nat) (V : Nat → Value) (hsrc : ArrAt w ao cap b off n V) (h1 : ∀ j, (V j).oneCell' = true) (hx : a.eval x = .slice ao n cap)
    (hn : n ≤ 5864062014000) (hbase : base ≤ w.heap.size)
    (h : ∀ v' w', w'.ownsRow base 22 1 v' n ((List.range n).map V) → w.grownBy w' v.ownBlock → Moved w v v' → wpList Try.prog ops Q rest (a.put o.dst v') w') :
    wpList Try.prog ops Q (o :: rest) a w :=
  wpList_appA hgd s x _ _ 24 _ ho Try.underlying23 info_ints rfl base v 0 _ hs hown ao cap b off n V hx hsrc h1 (by omega) (by decide) hbase fun v' w' h1 h2 h3 => h v' w' (by simpa using h1) h2 h3

theorem Fr.own {w wr : World} {cs : Array Value} (h : Fr w wr cs) {g j : Nat} (hg : w.heap.size + 2 ≤ g) (v : Value) : Fr w (wr.setCell ⟨g, j, none⟩ v) cs :=
  h.step ((Below.refl _ _).setCell hg v)

theorem Fr.cells {w wr : World} {x y z : Value} (h : Fr w wr #[x, y, z]) : (wr.cell? ⟨w.heap.size, 0, none⟩ = some x ∧ wr.cell? ⟨w.heap.size, 1, none⟩ = some y ∧ wr.cell? ⟨w.heap.size, 2, none⟩ = some z) ∧ wr.frozen? ⟨w.heap.size, 0, none⟩ = false ∧ wr.frozen? ⟨w.heap.size, 1, none⟩ = false ∧ wr.frozen? ⟨w.heap.size, 2, none⟩ = false :=
  ⟨⟨h.bx.cell 0 rfl, h.bx.cell 1 rfl, h.bx.cell 2 rfl⟩, frozen_of_row _ _ 0 _ _ h.bx.bx, frozen_of_row _ _ 1 _ _ h.bx.bx, frozen_of_row _ _ 2 _ _ h.bx.bx⟩

theorem Fr.res {w wr : World} {cs : Array Value} (h : Fr w wr cs) : (wr.cell? ⟨w.heap.size + 1, 0, none⟩ = some (.slice none 0 0) ∧ wr.cell? ⟨w.heap.size + 1, 1, none⟩ = some (.slice none 0 0) ∧ wr.cell? ⟨w.heap.size + 1, 2, none⟩ = some (.slice none 0 0)) ∧ wr.frozen? ⟨w.heap.size + 1, 0, none⟩ = false ∧ wr.frozen? ⟨w.heap.size + 1, 1, none⟩ = false ∧ wr.frozen? ⟨w.heap.size + 1, 2, none⟩ = false :=
  ⟨⟨cell_of_row _ _ 0 _ _ _ h.rc, cell_of_row _ _ 1 _ _ _ h.rc, cell_of_row _ _ 2 _ _ _ h.rc⟩, frozen_of_row _ _ 0 _ _ h.rc, frozen_of_row _ _ 1 _ _ h.rc, frozen_of_row _ _ 2 _ _ h.rc⟩

theorem wp_app_ints {o : Oper} {a : Act} {K : Act → World → Prop} {Q : Exit → Act → World → Prop} (w : World) (s x : Operand)
    (ho : o.op = .call { callee := .builtin .append, args := #[s, x], argTypes := #[22, 22] })
    (base : Nat) (v v2 : Value) (l l2 : List Int) (hs : a.eval s = v) (hown : OI w base v l) (hx : a.eval x = v2) (hsrc : IsInts w v2 l2)
    (hn : l.length + l2.length ≤ 17592186043904) (hbase : base ≤ w.heap.size)
    (h : ∀ v' w', OI w' base v' (l ++ l2) → w.grownBy w' v.ownBlock → K (a.put o.dst v') w') : Oper.wp Try.prog o a w K Q := by
  obtain ⟨i, hi, hz0, hz1, hz2⟩ := info_parts info_int
  obtain ⟨⟨ao, cap, b, off, rfl, g⟩, -⟩ := hsrc
  have e : (List.range l2.length).map (ivF l2) = l2.map (Value.int .i64) := by
    apply List.ext_getElem (by simp)
    intro j h1 h2
    have : j < l2.length := by simpa using h1
    simp [ivF, this]
  cases ao with
  | none =>
    have hm0 : l2.length = 0 := by rcases Nat.eq_zero_or_pos l2.length with h0 | h0; exact h0; have := g.ad h0; cases this
    have hl2 := List.eq_nil_of_length_eq_zero hm0
    subst hl2
    obtain rfl := g.nc rfl
    have hrun := run_append_owned_none (P := Try.prog) (w := w) base 22 o.type 3 i 1 Try.underlying22 hi v l.length _ hown
    unfold Oper.wp execOp
    simp only [ho, resolve, invoke, builtin, Sem.run_bind, Sem.run_pure, Result.andThen_ok, List.map_toArray, List.map_cons, List.map_nil, hs, hx]
    simp only [List.length_nil, hrun]
    exact h _ _ (by simpa using hown) (grown_refl _ _)
  | some ad =>
    obtain ⟨v', w', hr, h2, h3, h4⟩ := run_append_own (P := Try.prog) w base 22 o.type 3 i _ 1 8 Try.underlying22 hi hz0 hz1 hz2 rfl (by decide) v l.length _ hown ad l2.length cap ((List.range l2.length).map (ivF l2)) (by simp) (by
      intro j u hj
      have hjm : j < l2.length := by
        rcases Nat.lt_or_ge j l2.length with h | h
        · exact h
        · simp [Nat.not_lt.2 h] at hj
      have hadd := g.ad (by omega)
      simp only [Option.some.injEq] at hadd
      subst hadd
      have : ivF l2 j = u := by simpa [hjm] using hj
      subst this
      have h2 := g.el j hjm
      unfold Addr.add
      split
      · subst j; exact h2
      · exact h2) (by
      intro u hu
      obtain ⟨j, _, rfl⟩ := List.mem_map.1 hu
      rfl) (by simp only [maxLen]; omega) (by omega) hbase
    unfold Oper.wp execOp
    simp only [ho, resolve, invoke, builtin, Sem.run_bind, Sem.run_pure, Result.andThen_ok, List.map_toArray, List.map_cons, List.map_nil, hs, hx, hr]
    refine h _ _ ?_ h3
    unfold OI
    rw [e] at h2
    simpa using h2

/-- What the operations of the drawn statement leave. -/
def RM (B zb gb n cb i t x : Nat) (rv : Value) (row : List Int) (ix : Nat) (v : Value) (W : World) : Prop :=
  match ix with
  | 0 => v = .pointer (some ⟨zb, 2, none⟩)
  | 1 => v = .slice (some ⟨gb, 0, none⟩) n cb
  | 2 => v = .int .i64 (i : Int)
  | 3 => ∃ q, v = .slice (some ⟨q, 0, none⟩) 0 0 ∧ B ≤ q ∧ W.heap[q]? = some (.cells #[] 3 (0, 0))
  | 4 => v = .pointer (some ⟨zb, 2, none⟩)
  | 5 => v = .slice (some ⟨gb, 0, none⟩) n cb
  | 6 => v = .int .i64 (i : Int)
  | 7 => v = .pointer (some ⟨gb, i, none⟩)
  | 8 => v = rv
  | 9 => OI W B v row
  | 10 => v = .int .u8 (t : Int)
  | 11 => v = .int .i64 (t : Int)
  | 12 => v = .pointer (some ⟨zb, 2, none⟩)
  | 13 => v = .slice (some ⟨gb, 0, none⟩) n cb
  | 14 => v = .int .i64 (n : Int)
  | 15 => v = .int .i64 (x : Int)
  | 16 => IsInts W v [(x : Int)]
  | 17 => OI W B v (row ++ [(x : Int)])
  | 18 => v = .pointer (some ⟨gb, i, none⟩)
  | _ => True

theorem RM.mono (B zb gb n cb i t x : Nat) (rv : Value) (row : List Int) (ix : Nat) (v : Value) (W W' : World) (h : RM B zb gb n cb i t x rv row ix v W) (hb : Below W.heap.size W W') : RM B zb gb n cb i t x rv row ix v W' := by
  unfold RM at *
  split at h <;> first | exact h | exact OI.below h hb | exact IsInts.below h hb | (obtain ⟨q, h1, h2, h3⟩ := h; exact ⟨q, h1, h2, (hb.block q (Array.getElem?_eq_some_iff.1 h3).1).trans h3⟩)

theorem OB_emptyN (w : World) (n : Nat) (h : n = w.heap.size) : OB (w.alloc (.cells #[] 4)) n (.slice (some ⟨n, 0, none⟩) 0 0) [] := h ▸ World.ownsRow_made w #[] 0 (Nat.le_refl _) (by simp [maxLen]) rfl

/-- The greatest number of a list, and 0. -/
def greatI (l : List Int) : Int := l.foldl max 0

theorem greatI_take (l : List Int) (k : Nat) (h : k < l.length) : greatI (l.take (k + 1)) = max (greatI (l.take k)) l[k] := by
  unfold greatI; rw [List.take_succ_eq_append_getElem h, List.foldl_append]; rfl

set_option maxHeartbeats 2000000 in
theorem Greatest_c (w : World) (vg : Value) (g : Gm) (hg : IsGame w vg g) (hn : g.prio.length ≤ 3000) :
    Calls Try.prog 30 #[vg] w (Calm (.int .i64 (greatI g.prio)) w) := by
  obtain ⟨v0, v1, v2, rfl, i0, i1, i2⟩ := hg
  obtain ⟨⟨ao0, cap0, b0, off0, rfl, -⟩, -⟩ := i0
  obtain ⟨⟨ao1, cap1, b1, off1, rfl, g1⟩, hI⟩ := i1
  obtain ⟨V, ⟨ao2, cap2, b2, off2, rfl, -⟩, -⟩ := i2
  have HW := Lib.hid g1.el
  have HA := Lib.hid g1.ad
  have HI := Lib.hid hI
  clear g1 hI
  go_enter Try.func30, Try.ntmps30
  go_upto_region 1 with (fail)
  have hbg := boxGame (w := w) (v0 := Value.slice ao0 g.owner.length cap0) (v1 := Value.slice ao1 g.prio.length cap1) (v2 := Value.slice ao2 g.succ.length cap2)
  generalize (w.alloc (Obj.cells #[Value.slice ao0 g.owner.length cap0, Value.slice ao1 g.prio.length cap1, Value.slice ao2 g.succ.length cap2] 25)) = w1 at *
  have HB1 := Lib.hid hbg.2
  have d1 := cell_of_row _ _ 1 _ _ _ hbg.1
  clear hbg
  go_wp2
  go_loopg [3, 4] g.prio.length (fun gh m i wr => ∃ (k : Nat), gh = g.prio.length - k ∧ i = .int .i64 k ∧ m = .int .i64 (greatI (g.prio.take k)) ∧ k ≤ g.prio.length ∧ wr = w1)
  case atStart => exact ⟨0, by omega, rfl, rfl, by omega, rfl⟩
  case round =>
    obtain ⟨k, rfl, rfl, rfl, hk, rfl⟩ := hrel
    by_cases hlt : k < g.prio.length
    · obtain rfl := HA.out (by omega)
      have e1 := cellB HB1.out (HW.out k hlt)
      unfold ivF at e1
      rw [getD_lt _ _ _ hlt] at e1
      have HE := Lib.hid (greatI_take g.prio k hlt)
      generalize greatI (g.prio.take k) = m at *
      generalize g.prio[k] = x at *
      go_wp2
      all_goals
        go_roundg (g.prio.length - (k + 1))
        case rel => exact ⟨k + 1, rfl, by go_num, by rw [HE.out]; congr 1; first | omega | (simp; omega), by omega, rfl⟩
        case measure => omega
    · obtain rfl : k = g.prio.length := by omega
      rw [List.take_length]
      go_wp2
      go_ret
      exact ⟨rfl, HB1.out⟩

def swK (g : Gm) (k : Nat) : Gm := ⟨(g.owner.take k).map (1 - ·), (g.prio.take k).map (· + 1), g.succ.take k⟩

theorem swK_succ (g : Gm) (k : Nat) (h0 : k < g.owner.length) (h1 : k < g.prio.length) (h2 : k < g.succ.length) :
    swK g (k + 1) = ⟨(swK g k).owner ++ [1 - g.owner.getD k 0], (swK g k).prio ++ [g.prio.getD k 0 + 1], (swK g k).succ ++ [g.succ.getD k []]⟩ := by
  unfold swK
  rw [List.take_succ_eq_append_getElem h0, List.take_succ_eq_append_getElem h1, List.take_succ_eq_append_getElem h2, getD_lt _ _ _ h0, getD_lt _ _ _ h1, getD_lt _ _ _ h2, List.map_append, List.map_append]
  rfl

def swapR (g : Gm) : Gm := if validB g && inB 29999 g.prio then swapG g else ⟨[], [], []⟩

theorem nilGame_end {g : Gm} {w wr : World} {cs : Array Value} {a b c : Value} (HR : g = ⟨[], [], []⟩) (hF : Fr w wr cs) :
    NewGame g w (.returned (.agg #[.slice none 0 0, .slice none 0 0, .slice none 0 0])) (((wr.setCell ⟨w.heap.size + 1, 0, none⟩ a).setCell ⟨w.heap.size + 1, 1, none⟩ b).setCell ⟨w.heap.size + 1, 2, none⟩ c) := by
  rw [HR]
  exact ⟨_, rfl, ⟨_, _, _, rfl, ints_nil _, ints_nil _, rows_nil _⟩, below_three hF.bx.bl (by omega)⟩

/-- A new value in new memory among the others. -/
theorem GB.addNew {w w' : World} {B z : Nat} {v0 v1 v2 u : Value} {vals others : List Value} {gm : Gm} (h : GB w B z v0 v1 v2 vals gm others) (hb : Below w.heap.size w w')
    (hu : ∀ g, u.ownBlock = some g → w.heap.size ≤ g) (hu2 : ∀ g, u.ownBlock = some g → g < w'.heap.size) : GB w' B z v0 v1 v2 vals gm (u :: others) :=
  { h.below hb with
    sep := by
      have : Sep (u :: (boxV z :: v0 :: v1 :: v2 :: (vals ++ others))) := h.sep.cons hu h.lts
      exact this.perm (List.perm_middle (l₁ := boxV z :: v0 :: v1 :: v2 :: vals) (a := u) (l₂ := others)).symm
    lt := fun x hx g hg => by
      rcases List.mem_cons.1 hx with rfl | hx
      · exact hu2 g hg
      · exact Nat.lt_of_lt_of_le (h.lt x hx g hg) hb.size }

/-- 'append' of a row in a region that draws its order. -/
theorem wp_app_row {o : Oper} {a : Act} {K : Act → World → Prop} {Q : Exit → Act → World → Prop} (w : World) (s x : Operand) (u : Value)
    (ho : o.op = .call { callee := .builtin .append, args := #[s, x], argTypes := #[23, 23] })
    (base : Nat) (v : Value) (n : Nat) (l : List Value) (hs : a.eval s = v) (hown : w.ownsRow base 22 1 v n l) (hx : a.eval x = .slice (some ⟨w.heap.size, 0, none⟩) 1 1) (hu : u.oneCell' = true)
    (hn : n < 5864062014000) (hbase : base ≤ w.heap.size)
    (h : ∀ v' w', w'.ownsRow base 22 1 v' (n + 1) (l ++ [u]) → w.grownBy w' v.ownBlock → Moved w v v' → K (a.put o.dst v') w') :
    Oper.wp Try.prog o a (w.alloc (.cells #[u] 22)) K Q := by
  obtain ⟨i0, hi0, hz0, hz1, hz2⟩ := info_parts info_ints
  refine wp_append_lies _ s x _ ho base _ i0 _ 1 24 Try.underlying23 hi0 hz0 hz1 hz2 rfl (by decide) v n _ hs (hown.alloc _) ⟨w.heap.size, 0, none⟩ 1 1 [u] hx rfl (World.news_of_block (cs := #[u]) (t := 22) (fr := (0, 0)) (heap_alloc_new w _)) (by simpa using hu) (by omega) (by simp only [maxLen]; omega) (by omega) (by simp; omega) (w.heap.size + 1) (by simp) ?_
  intro g cap w' h1 h2 h3 h4
  refine h _ _ (by simpa using h1) ⟨h2.os, h2.tape, h2.output, by have := h2.size; simp at this; omega, fun k hk hr => ?_⟩ (fun k hk => ?_)
  · rw [h2.block k (by simp; omega) hr]; exact heap_alloc_old w _ hk
  · obtain rfl : g = k := by simpa [Value.ownBlock] using hk
    rcases h3 with e | e
    · exact .inl e
    · exact .inr (by omega)

theorem swap_bounds {g : Gm} (hv : validB g = true) (k : Nat) (hk : k < g.owner.length) : (0 ≤ g.owner.getD k 0 ∧ g.owner.getD k 0 ≤ 1) ∧ (0 ≤ g.prio.getD k 0 ∧ g.prio.getD k 0 ≤ 30000) := ⟨(valid_at hv k hk).1, (valid_at hv k hk).2.1⟩

set_option maxRecDepth 100000 in
set_option maxHeartbeats 8000000 in
theorem Swap_c (w : World) (vg : Value) (g : Gm) (hg : IsGame w vg g) (hS : ∀ i, (g.succ.getD i []).length ≤ 1000) :
    Calls Try.prog 49 #[vg] w (NewGame (swapR g) w) := by
  have hgx := hg
  obtain ⟨v0, v1, v2, rfl, i0, i1, i2⟩ := hg
  have HI1 := Lib.hid i1
  obtain ⟨⟨ao0, cap0, b0, off0, rfl, g0⟩, i0⟩ := i0
  obtain ⟨⟨ao1, cap1, b1, off1, rfl, g1⟩, i1⟩ := i1
  obtain ⟨V, ⟨ao2, cap2, b2, off2, rfl, g2⟩, hr⟩ := i2
  cases hv : validB g with
  | false =>
    have HR : Hid (swapR g = ⟨[], [], []⟩) := by show _ = _; simp [swapR, hv]
    go_enter Try.func49, Try.ntmps49
    go_wp2_with fail
    refine (AValid_c _ _ g (hgx.below (by repeat (first | exact Below.refl _ _ | assumption | (refine belA ?_ _) | (refine belD ?_ _))))).mono ?_
    rintro e w1 ⟨rfl, hb1⟩
    rw [hv]
    have hF : Fr w w1 #[Value.slice ao0 g.owner.length cap0, Value.slice ao1 g.prio.length cap1, Value.slice ao2 g.succ.length cap2] :=
      ⟨Boxed.start ((bel_box _).trans (hb1.mono (by simp))), (hb1.block _ (by simp)).trans (by (repeat (rw [alloc_get]; first | rw [if_pos (by first | (simp; done) | (simp; omega))] | rw [if_neg (by first | (simp; done) | (simp; omega))])); (try rfl))⟩
    obtain ⟨⟨z0, z1, z2⟩, y0, y1, y2⟩ := hF.res
    clear hb1
    go_wp2
    (have hc3 := three_set (a := Value.slice none 0 0) (b := Value.slice none 0 0) (c := Value.slice none 0 0) hF.rc); (have c0 := cell_of_row _ _ 0 _ _ _ hc3); (have c1 := cell_of_row _ _ 1 _ _ _ hc3); (have c2 := cell_of_row _ _ 2 _ _ _ hc3); (refine bodyPost_ret (v := .agg #[Value.slice none 0 0, Value.slice none 0 0, Value.slice none 0 0]) (by simp [results, Try.results49, go_sem, c0, c1, c2]) rfl ?_)
    exact nilGame_end HR.out hF
  | true =>
    cases hq : inB 29999 g.prio with
    | false =>
      have HR : Hid (swapR g = ⟨[], [], []⟩) := by show _ = _; simp [swapR, hq]
      go_enter Try.func49, Try.ntmps49
      go_wp2_with fail
      refine (AValid_c _ _ g (hgx.below (by repeat (first | exact Below.refl _ _ | assumption | (refine belA ?_ _) | (refine belD ?_ _))))).mono ?_
      rintro e w1 ⟨rfl, hb1⟩
      rw [hv]
      have hF : Fr w w1 #[Value.slice ao0 g.owner.length cap0, Value.slice ao1 g.prio.length cap1, Value.slice ao2 g.succ.length cap2] :=
        ⟨Boxed.start ((bel_box _).trans (hb1.mono (by simp))), (hb1.block _ (by simp)).trans (by (repeat (rw [alloc_get]; first | rw [if_pos (by first | (simp; done) | (simp; omega))] | rw [if_neg (by first | (simp; done) | (simp; omega))])); (try rfl))⟩
      obtain ⟨⟨d0, d1, d2⟩, -⟩ := hF.cells
      clear hb1
      go_wp2_with fail
      refine (within_c _ _ [g.prio] _ (IsRows.one _ _ (HI1.out.below hF.bx.bl) (by simp))).mono ?_
      rintro e w2 ⟨rfl, n2, rfl⟩
      rw [show withinB 29999 [g.prio] = false from by simp [withinB, hq]]
      have hF2 := hF.step (((bel_box (.cells #[Value.slice ao1 g.prio.length cap1] 22)).mono hF.lt).trans (below_draws _ _ n2))
      clear hF d0 d1 d2
      generalize ((w1.alloc (.cells #[Value.slice ao1 g.prio.length cap1] 22)).drewN n2) = w3 at *
      obtain ⟨⟨z0, z1, z2⟩, y0, y1, y2⟩ := hF2.res
      go_wp2
      (have hc3 := three_set (a := Value.slice none 0 0) (b := Value.slice none 0 0) (c := Value.slice none 0 0) hF2.rc); (have c0 := cell_of_row _ _ 0 _ _ _ hc3); (have c1 := cell_of_row _ _ 1 _ _ _ hc3); (have c2 := cell_of_row _ _ 2 _ _ _ hc3); (refine bodyPost_ret (v := .agg #[Value.slice none 0 0, Value.slice none 0 0, Value.slice none 0 0]) (by simp [results, Try.results49, go_sem, c0, c1, c2]) rfl ?_)
      exact nilGame_end HR.out hF2
    | true =>
      have hn0 := g0.nb
      have HR : Hid (swapR g = swapG g) := by show _ = _; simp [swapR, hv, hq]
      obtain ⟨la, lb, lc⟩ := valid_lens hv
      have HON : Hid (g.owner.length ≤ 3000 ∧ g.prio.length = g.owner.length ∧ g.succ.length = g.owner.length) := ⟨la, lb, lc⟩
      have HVB := Lib.hid (fun k hk => swap_bounds hv k hk)
      have HS := Lib.hid hS
      have HRW := Lib.hid hr
      have hpr : ∀ x ∈ g.prio, x ≤ 29999 := fun x hx => by
        have := List.all_eq_true.1 hq x hx
        simp at this; omega
      have HPR := Lib.hid hpr
      clear hpr hS la lb lc hr
      go_enter Try.func49, Try.ntmps49
      go_wp2_with fail
      refine (AValid_c _ _ g (hgx.below (by repeat (first | exact Below.refl _ _ | assumption | (refine belA ?_ _) | (refine belD ?_ _))))).mono ?_
      rintro e w1 ⟨rfl, hb1⟩
      rw [hv]
      have hF : Fr w w1 #[Value.slice ao0 g.owner.length cap0, Value.slice ao1 g.prio.length cap1, Value.slice ao2 g.succ.length cap2] :=
        ⟨Boxed.start ((bel_box _).trans (hb1.mono (by simp))), (hb1.block _ (by simp)).trans (by (repeat (rw [alloc_get]; first | rw [if_pos (by first | (simp; done) | (simp; omega))] | rw [if_neg (by first | (simp; done) | (simp; omega))])); (try rfl))⟩
      obtain ⟨⟨d0, d1, d2⟩, -⟩ := hF.cells
      clear hb1 hv
      go_wp2_with fail
      refine (within_c _ _ [g.prio] _ (IsRows.one _ _ (HI1.out.below hF.bx.bl) (by simp))).mono ?_
      rintro e w2 ⟨rfl, n2, rfl⟩
      rw [show withinB 29999 [g.prio] = true from by simp [withinB, hq]]
      have hF2 := hF.step (((bel_box (.cells #[Value.slice ao1 g.prio.length cap1] 22)).mono hF.lt).trans (below_draws _ _ n2))
      clear hF d0 d1 d2 hq
      generalize ((w1.alloc (.cells #[Value.slice ao1 g.prio.length cap1] 22)).drewN n2) = w3 at *
      obtain ⟨B, hBe⟩ : ∃ B, B = w.heap.size + 2 := ⟨_, rfl⟩
      have hB3 : B ≤ w3.heap.size := by have := hF2.lt; omega
      have hGB := GB.start (B := B) (others := []) (w := w3) hB3 List.Pairwise.nil (fun u hu => absurd hu (by simp))
      have d0 := (hF2.step (hBe ▸ (bel_box (.cells #[.slice none 0 0, .slice none 0 0, .slice none 0 0] 25)).mono hB3)).cells.1.1
      go_wp2
      clear d0
      go_loopg [19] g.owner.length (fun gh i wr => ∃ (k : Nat) (x0 x1 x2 : Value) (vals : List Value), gh = g.owner.length - k ∧ i = .int .i64 k ∧ k ≤ g.owner.length ∧ Below B w3 wr ∧ GB wr B w3.heap.size x0 x1 x2 vals (swK g k) [])
      case atStart => exact ⟨0, _, _, _, _, by omega, rfl, by omega, (bel_box _).mono hB3, hGB⟩
      case round =>
        obtain ⟨k, x0, x1, x2, vals, hgk, rfl, hk, hB, hG⟩ := hrel
        have HG := Lib.hid hgk
        clear hgk hGB
        have hFw := hF2.step (hBe ▸ hB)
        by_cases hlt : k < g.owner.length
        · have hn1 : k < g.prio.length := by rw [HON.out.2.1]; exact hlt
          have hn2 : k < g.succ.length := by rw [HON.out.2.2]; exact hlt
          obtain rfl := g2.ad (by omega)
          obtain rfl := g0.ad (by omega)
          obtain rfl := g1.ad (by omega)
          have hcv := g2.el k hn2
          obtain ⟨⟨ao3, cap3, b3, off3, hv3, g3⟩, hri⟩ := HRW.out k hn2
          have HROW : Hid (IsInts w (.slice ao3 (g.succ.getD k []).length cap3) (g.succ.getD k [])) := ⟨⟨ao3, cap3, b3, off3, rfl, g3⟩, hri⟩
          rw [hv3] at hcv
          have hsl := HS.out k
          have HGN := Lib.hid (swK_succ g k hlt hn1 hn2)
          have how := g0.el k hlt
          have hpw := g1.el k hn1
          unfold ivF at how hpw
          obtain ⟨⟨ob0, ob1⟩, ⟨pb0, pb1⟩⟩ := HVB.out k hlt
          have hGL0 : (swK g k).owner.length ≤ 3000 := by have := HON.out.1; simp [swK]; omega
          have hGL1 : (swK g k).prio.length ≤ 3000 := by have := HON.out; simp [swK]; omega
          have hGL2 : (swK g k).succ.length ≤ 3000 := by have := HON.out; simp [swK]; omega
          clear hri hv3 g3
          generalize g.succ.getD k [] = row at *
          generalize g.owner.getD k 0 = ow at *
          generalize g.prio.getD k 0 = pw at *
          generalize swK g k = gm at *
          have hBr : B ≤ wr.heap.size := Nat.le_trans hB3 hB.size
          have HC0 : Hid (∀ W : World, Below w.heap.size w W → W.cell? ⟨b0, off0 + k, none⟩ = some (.int .i64 ow)) := fun W hW => cellB hW how
          have HC1 : Hid (∀ W : World, Below w.heap.size w W → W.cell? ⟨b1, off1 + k, none⟩ = some (.int .i64 pw)) := fun W hW => cellB hW hpw
          have HC2 : Hid (∀ W : World, Below w.heap.size w W → W.cell? ⟨b2, off2 + k, none⟩ = some (.slice ao3 row.length cap3)) := fun W hW => cellB hW hcv
          clear how hpw hcv
          obtain ⟨w5, rfl⟩ : ∃ w5 : World, w5 = wr := ⟨_, rfl⟩
          have HGx := Lib.hid hG
          have HFx := Lib.hid hFw
          have HBo := Lib.hid hB
          have hi0 : (0 : Int) ≤ k := Int.natCast_nonneg _
          have hi1 : (k : Int) < g.owner.length := by omega
          have q0 : w5.cell? ⟨w3.heap.size, 0, none⟩ = some x0 := cell_of_row _ _ 0 _ _ _ hG.box
          have d0 := hFw.cells.1.1
          have c0 := HC0.out _ hFw.bx.bl
          have hzl := hG.zlt
          have hGo : OI w5 B x0 gm.owner := hG.o
          clear hG hFw hB
          have hwr0 : IntKind.i64.wrap (1 - ow) = 1 - ow := IntWalk.i64_in _ ⟨by omega, by omega⟩
          have hwr1 : IntKind.i64.wrap (pw + 1) = pw + 1 := IntWalk.i64_in _ ⟨by omega, by omega⟩
          go_upto_region 7 with (fail)
          go_cut [] (fun wx => ∃ (y0 : Value) (wz : World), wz = wx ∧ GB wz B w3.heap.size y0 x1 x2 vals ⟨gm.owner ++ [1 - ow], gm.prio, gm.succ⟩ [] ∧ Kept B [] w5 wz)
          case first =>
            go_region_law ((rw [if_pos (by rfl)]; refine wp_app_int w5 _ _ (1 - ow) (by rfl) B x0 _ (by rfl) hGo (by rfl) (by omega) hBr ?_; intro y0 w6 hown6 hg6 hmv6; obtain ⟨aoy, capy, hvy⟩ := hown6.slice; rw [List.length_append, List.length_singleton] at hvy; subst hvy; have hb6 : Below B w5 w6 := (Below.refl _ _).grown hg6 hBr (fun g hg => HGx.out.o.ge g hg); have hF6 := HFx.out.step (hBe ▸ hb6); have HST := Lib.hid (HGx.out.stepO hown6 hg6 hmv6 hBr); have k0 : w6.cell? ⟨w3.heap.size, 0, none⟩ = some x0 := cell_of_row _ _ 0 _ _ _ HST.out.1; have f0 : w6.frozen? ⟨w3.heap.size, 0, none⟩ = false := frozen_of_row _ _ 0 _ _ HST.out.1))
            all_goals
              go_wp2_with fail
              go_meet
              case rel => exact ⟨_, _, rfl, HST.out.2⟩
          case rest =>
            obtain ⟨y1, w7, rfl, hG7, hK7⟩ := hcut
            clear q0 d0 c0 hzl hi1 hGo
            have HF7 := Lib.hid (HFx.out.step (hBe ▸ hK7.bl))
            have HBl7 := Lib.hid (HBo.out.trans hK7.bl)
            have hBs7 : B ≤ w7.heap.size := Nat.le_trans hBr hK7.bl.size
            have HG7 := Lib.hid hG7
            clear hG7 hK7 HFx HBo HGx hBr
            have q0 : w7.cell? ⟨w3.heap.size, 1, none⟩ = some x1 := cell_of_row _ _ 1 _ _ _ HG7.out.box
            have d0 := HF7.out.cells.1.2.1
            have c0 := HC1.out _ HF7.out.bx.bl
            have hzl := HG7.out.zlt
            have hi1 : (k : Int) < g.prio.length := by omega
            have hGo : OI w7 B x1 gm.prio := HG7.out.p
            go_wp2_with fail
            go_upto_region 8 with (fail)
            go_cut [] (fun wx => ∃ (y0 : Value) (wz : World), wz = wx ∧ GB wz B w3.heap.size y1 y0 x2 vals ⟨gm.owner ++ [1 - ow], gm.prio ++ [pw + 1], gm.succ⟩ [] ∧ Kept B [] w7 wz)
            case first =>
              go_region_law ((rw [if_pos (by rfl)]; refine wp_app_int w7 _ _ (pw + 1) (by rfl) B x1 _ (by rfl) hGo (by rfl) (by omega) hBs7 ?_; intro y0 w6 hown6 hg6 hmv6; obtain ⟨aoy, capy, hvy⟩ := hown6.slice; rw [List.length_append, List.length_singleton] at hvy; subst hvy; have HST := Lib.hid (HG7.out.stepP hown6 hg6 hmv6 hBs7); have k0 : w6.cell? ⟨w3.heap.size, 1, none⟩ = some x1 := cell_of_row _ _ 1 _ _ _ HST.out.1; have f0 : w6.frozen? ⟨w3.heap.size, 1, none⟩ = false := frozen_of_row _ _ 1 _ _ HST.out.1))
              all_goals
                go_wp2_with fail
                go_meet
                case rel => exact ⟨_, _, rfl, HST.out.2⟩
            case rest =>
              obtain ⟨y2, w8, rfl, hG8, hK8⟩ := hcut
              clear q0 d0 c0 hzl hi1 hGo
              have HF8 := Lib.hid (HF7.out.step (hBe ▸ hK8.bl))
              have HBl8 := Lib.hid (HBl7.out.trans hK8.bl)
              have hBs8 : B ≤ w8.heap.size := Nat.le_trans hBs7 hK8.bl.size
              have HG8 := Lib.hid hG8
              have hzl := hG8.zlt
              have q2 : w8.cell? ⟨w3.heap.size, 2, none⟩ = some x2 := cell_of_row _ _ 2 _ _ _ hG8.box
              have d2 := HF8.out.cells.1.2.2
              have c2 := HC2.out _ HF8.out.bx.bl
              have HRI : Hid (IsInts w8 (.slice ao3 row.length cap3) row) := HROW.out.below HF8.out.bx.bl
              have hi1 : (k : Int) < g.succ.length := by omega
              clear hG8 hK8 HF7 HBl7 HG7 hBs7
              go_wp2_with fail
              have HRI8 : Hid (IsInts w8.drew (.slice ao3 row.length cap3) row) := HRI.out.below (Below.drew (Below.refl _ _))
              go_upto_region 9 with (fail)
              clear HRI HROW HPR HRW
              go_region_law (first | ((rw [if_pos (by rfl)]; refine wp_app_row w9 _ _ (.slice ao9 row.length cap9) (by rfl) B x2 _ vals (by rfl) HG9.out.r (by rfl) rfl (by show gm.succ.length < _; omega) hB9 ?_; intro v10 w10 hown10 hg10 hmv10; obtain ⟨ao10, cap10, hv10⟩ := ownsRow_slice hown10; subst hv10; have HST := Lib.hid (HG9.out.stepR HO9.out hown10 hg10 hmv10 hB9); have k0 : w10.cell? ⟨w3.heap.size, 2, none⟩ = some x2 := cell_of_row _ _ 2 _ _ _ HST.out.1; have f0 : w10.frozen? ⟨w3.heap.size, 2, none⟩ = false := frozen_of_row _ _ 2 _ _ HST.out.1)) | ((rw [if_pos (by rfl)]; refine wp_app_ints w8.drew _ _ (by rfl) w8.heap.size (.slice none 0 0) (.slice ao3 row.length cap3) [] row (by rfl) (OI_nil _ _) (by rfl) HRI8.out (by simp; omega) (Nat.le_refl _) ?_; intro v9 w9 hown9 hg9; rw [List.nil_append] at hown9; have hb9 : Below w8.heap.size w8 w9 := (Below.drew (Below.refl _ _)).grown hg9 (Nat.le_refl _) (fun k hk => by cases hk); obtain ⟨ao9, cap9, hv9⟩ := hown9.slice; subst hv9; have HG9 := Lib.hid (HG8.out.addNew hb9 (fun g hg => hown9.ge g hg) hown9.lt'); have HO9 := Lib.hid (hown9.base hBs8); have HB9 := Lib.hid hb9; have q9 : w9.cell? ⟨w3.heap.size, 2, none⟩ = some x2 := cell_of_row _ _ 2 _ _ _ HG9.out.box; have hz9 := HG9.out.zlt; have hB9 : B ≤ w9.heap.size := Nat.le_trans hBs8 hb9.size; clear hb9 hown9 hg9)))
              all_goals
                go_wp2_with fail
                go_roundg (g.owner.length - (k + 1))
                case measure => have := HG.out; omega
                case rel => exact ⟨k + 1, y1, y2, _, _, rfl, by go_num, by omega, HBl8.out.trans ((HB9.out.mono hBs8).trans HST.out.2.2.bl), by rw [HGN.out]; exact HST.out.2.1⟩
        · obtain rfl : k = g.owner.length := by omega
          have HGg := Lib.hid hG
          have HSW : Hid (swK g g.owner.length = swapG g) := by
            show _ = _
            unfold swK swapG
            have h1 := HON.out
            rw [List.take_length, List.take_of_length_le (by omega), List.take_of_length_le (by omega)]
          have hq0 := cell_of_row _ _ 0 _ _ _ hG.box
          have hq1 := cell_of_row _ _ 1 _ _ _ hG.box
          have hq2 := cell_of_row _ _ 2 _ _ _ hG.box
          obtain ⟨oa0, oc0, hx0⟩ := hG.o.slice
          obtain ⟨oa1, oc1, hx1⟩ := hG.p.slice
          obtain ⟨oa2, oc2, hx2⟩ := ownsRow_slice hG.r
          subst hx0 hx1 hx2
          obtain ⟨⟨z0, z1, z2⟩, y0, y1, y2⟩ := hFw.res
          have HBB : Hid (w.heap.size + 1 < B) := by show _ < _; omega
          clear hG hB
          generalize hgm : swK g g.owner.length = gm at *
          go_wp2
          (have hc3 := three_set (a := Value.slice oa0 gm.owner.length oc0) (b := Value.slice oa1 gm.prio.length oc1) (c := Value.slice oa2 gm.succ.length oc2) hFw.rc); (have c0 := cell_of_row _ _ 0 _ _ _ hc3); (have c1 := cell_of_row _ _ 1 _ _ _ hc3); (have c2 := cell_of_row _ _ 2 _ _ _ hc3); (refine bodyPost_ret (v := .agg #[Value.slice oa0 gm.owner.length oc0, Value.slice oa1 gm.prio.length oc1, Value.slice oa2 gm.succ.length oc2]) (by simp [results, Try.results49, go_sem, c0, c1, c2]) rfl ?_)
          rw [HR.out]
          refine ⟨_, rfl, ?_, below_three hFw.bx.bl (by omega)⟩
          have hE := ((HGg.out.setFar HBB.out (j := 0) (u := Value.slice oa0 gm.owner.length oc0)).setFar HBB.out (j := 1) (u := Value.slice oa1 gm.prio.length oc1)).setFar HBB.out (j := 2) (u := Value.slice oa2 gm.succ.length oc2)
          have hgs : gm = swapG g := HSW.out
          rw [← hgs]
          have hl := HON.out
          have e0 : gm.owner.length = g.owner.length := by rw [hgs]; simp [swapG]
          have e1 : gm.prio.length = g.prio.length := by rw [hgs]; simp [swapG]
          have e2 : gm.succ = g.succ := by rw [hgs]; rfl
          have hm : ∀ n, n ≤ 3000 → n ≤ maxN := fun n hn => by simp only [maxN]; omega
          refine hE.is ⟨hm _ (by omega), fun x hx => ?_⟩ ⟨hm _ (by omega), fun x hx => ?_⟩ (hm _ (by rw [e2]; omega)) (fun j hj => ?_)
          · rw [hgs] at hx
            obtain ⟨y, hy, rfl⟩ := List.mem_map.1 hx
            obtain ⟨i, hi, rfl⟩ := List.getElem_of_mem hy
            have := (HVB.out i hi).1
            rw [getD_lt _ _ _ hi] at this
            unfold I64; omega
          · rw [hgs] at hx
            obtain ⟨y, hy, rfl⟩ := List.mem_map.1 hx
            obtain ⟨i, hi, rfl⟩ := List.getElem_of_mem hy
            have := (HVB.out i (by omega)).2
            rw [getD_lt _ _ _ hi] at this
            unfold I64; omega
          · rw [e2] at hj ⊢
            exact ⟨hm _ (Nat.le_trans (HS.out j) (by omega)), (HRW.out j hj).2⟩

theorem mk_rowsI {ops : Array Oper} {rest : List Oper} {o : Oper} {a : Act} {Q : Exit → Act → World → Prop} {w : World} (hgd : o.guard = none) (l c : Operand) (t : TypeId) (ht : Try.prog.underlying t = some (.slice 22))
    (ho : o.op = Op.makeSlice t l c) (base : Nat) (L : Int) (n : Nat) (hl : a.eval l = .int .i64 L) (hc : a.eval c = .int .i64 L) (hL : L = (n : Int)) (hn : n ≤ 11728124028000) (hbase : base ≤ w.heap.size)
    (h : ∀ w', w'.ownsRow base 22 1 (.slice (some ⟨w.heap.size, 0, none⟩) n n) n (List.replicate n (.slice none 0 0)) → w.grownBy w' none → wpList Try.prog ops Q rest (a.put o.dst (.slice (some ⟨w.heap.size, 0, none⟩) n n)) w') :
    wpList Try.prog ops Q (o :: rest) a w :=
  wpList_mk1 hgd l c t _ 24 _ ho ht info_ints rfl base L n hl hc hL (by omega) (by omega) hbase h

theorem Rows.ofNil {W : World} {B ob n : Nat} (h : W.ownsRow B 22 1 (.slice (some ⟨ob, 0, none⟩) n n) n (List.replicate n (.slice none 0 0))) : Rows W B n ob (List.replicate n (.slice none 0 0)) (List.replicate n []) := by
  have hg : ∀ j, j < n → (List.replicate n (Value.slice none 0 0)).getD j undef = .slice none 0 0 := fun j hj => by simp [List.getD, hj]
  have hg2 : ∀ j, j < n → (List.replicate n ([] : List Int)).getD j [] = [] := fun j hj => by simp [List.getD, hj]
  refine ⟨h, fun j hj => ?_, fun i j hi hj _ => ?_, fun j hj => ?_, by simp, by simp⟩
  · rw [hg j hj, hg2 j hj]; exact OI_nil _ _
  · rw [hg i hi]; intro k hk; cases hk
  · rw [hg j hj]; intro hk; cases hk

theorem Rows.is {w : World} {B n ob : Nat} {vals : List Value} {rows : List (List Int)} (h : Rows w B n ob vals rows) (hn : n ≤ 3000) (hl : ∀ j, j < n → (rows.getD j []).length ≤ 3000 ∧ ∀ x ∈ rows.getD j [], I64 x) : IsRows w (.slice (some ⟨ob, 0, none⟩) n n) rows := by
  have hlr := h.lr
  refine ⟨fun j => vals.getD j undef, ?_, fun j hj => (h.e j (by omega)).is (by have := (hl j (by omega)).1; unfold maxN; omega) (hl j (by omega)).2⟩
  rw [hlr]
  refine ownsRow_arr h.o (by unfold maxN; omega) _ fun j hj => ?_
  have : j < vals.length := by rw [h.lv]; exact hj
  rw [getD_lt _ _ _ this]; simp [this]

section
variable {w w' : World} {B gb n i : Nat} {G : Nat → Nat} {M : Nat → Nat → Bool}
theorem OB_set_ne {w : World} {base g j : Nat} {v u : Value} {l : List Bool} (h : OB w base v l) (hne : v.ownBlock ≠ some g) : OB (w.setCell ⟨g, j, none⟩ u) base v l :=
  OB.grown h (grown_set w g j u) (.inr hne)
end

/-- A list made for the call. -/
def NewN (l : List Int) (w : World) (e : Ending) (w' : World) : Prop := ∃ v, e = .returned v ∧ IsInts w' v l ∧ Below w.heap.size w w'

theorem ivF_drop (l : List Int) (k j : Nat) : ivF (l.drop k) j = ivF l (k + j) := by simp [ivF, List.getD]

theorem ivF_take (l : List Int) {k j : Nat} (h : j < k) : ivF (l.take k) j = ivF l j := by simp [ivF, List.getD, h]

theorem IsInts.drop {w : World} {ao : Option Addr} {cap b off : Nat} {l : List Int} (h : ArrAt w ao cap b off l.length (ivF l)) (hr : ∀ x ∈ l, I64 x) (k : Nat) (hk : k < l.length) :
    IsInts w (.slice (some ⟨b, off + k, none⟩) (l.length - k) (cap - k)) (l.drop k) := by
  have := h.lc
  have := h.cm
  have := h.nm
  refine ⟨⟨_, _, b, off + k, by rw [List.length_drop], ⟨by rw [List.length_drop]; omega, by omega, by rw [List.length_drop]; omega, (fun e => by cases e), fun _ => rfl, fun j hj => ?_⟩⟩, fun x hx => hr x (List.mem_of_mem_drop hx)⟩
  rw [List.length_drop] at hj
  have e := h.el (k + j) (by omega)
  rw [ivF_drop, Nat.add_assoc]
  exact e

theorem IsInts.take {w : World} {ao : Option Addr} {cap b off : Nat} {l : List Int} (h : ArrAt w ao cap b off l.length (ivF l)) (hr : ∀ x ∈ l, I64 x) (k : Nat) (hk : k ≤ l.length) :
    IsInts w (.slice ao k cap) (l.take k) := by
  have := h.lc
  have hl : (l.take k).length = k := by rw [List.length_take]; omega
  refine ⟨⟨ao, cap, b, off, by rw [hl], ⟨by omega, h.cm, by have := h.nm; omega, h.nc, fun h0 => h.ad (by omega), fun j hj => ?_⟩⟩, fun x hx => hr x (List.mem_of_mem_take hx)⟩
  rw [hl] at hj
  rw [ivF_take _ hj]
  exact h.el j (by omega)

theorem IsGame.dat {w : World} {g : Gm} {N : Nat} {a0 a1 a2 : Option Addr} {n0 n1 n2 k0 k1 k2 : Nat} (h : IsGame w (.agg #[.slice a0 n0 k0, .slice a1 n1 k1, .slice a2 n2 k2]) g) (l0 : g.owner.length = N) (l1 : g.prio.length = N) (l2 : g.succ.length = N) :
    N = n0 ∧ N = n1 ∧ N = n2 ∧ ∃ b0 o0 b1 o1 b2 o2, ∃ V : Nat → Value, (0 < N → a0 = some ⟨b0, o0, none⟩ ∧ a1 = some ⟨b1, o1, none⟩ ∧ a2 = some ⟨b2, o2, none⟩) ∧
      ∀ j, j < N → w.cell? ⟨b0, o0 + j, none⟩ = some (.int .i64 (g.owner.getD j 0)) ∧ w.cell? ⟨b1, o1 + j, none⟩ = some (.int .i64 (g.prio.getD j 0)) ∧ w.cell? ⟨b2, o2 + j, none⟩ = some (V j) ∧ IsInts w (V j) (g.succ.getD j []) := by
  obtain ⟨v0, v1, v2, hv, ⟨⟨ao0, cap0, b0, off0, rfl, g0⟩, _⟩, ⟨⟨ao1, cap1, b1, off1, rfl, g1⟩, _⟩, ⟨V, ⟨ao2, cap2, b2, off2, rfl, g2⟩, hr⟩⟩ := h
  injection hv with hv
  injection hv with hv
  simp only [List.cons.injEq, Value.slice.injEq, and_true] at hv
  obtain ⟨⟨rfl, rfl, rfl⟩, ⟨rfl, rfl, rfl⟩, rfl, rfl, rfl⟩ := hv
  exact ⟨l0.symm, l1.symm, l2.symm, b0, off0, b1, off1, b2, off2, V, fun hN => ⟨g0.ad (by omega), g1.ad (by omega), g2.ad (by omega)⟩, fun j hj => ⟨g0.el j (by omega), g1.el j (by omega), g2.el j (by omega), hr j (by omega)⟩⟩

theorem IsInts.shp {w : World} {v : Value} {l : List Int} (h : IsInts w v l) : ∃ a c, v = .slice a l.length c := by
  obtain ⟨⟨a, c, b, o, rfl, -⟩, -⟩ := h
  exact ⟨a, c, rfl⟩

theorem IsInts.dat {w : World} {a : Option Addr} {n c : Nat} {l : List Int} (h : IsInts w (.slice a n c) l) : ∃ b o, (0 < n → a = some ⟨b, o, none⟩) ∧ n ≤ 140737488351232 ∧ ∀ j, j < n → w.cell? ⟨b, o + j, none⟩ = some (.int .i64 (l.getD j 0)) := by
  obtain ⟨⟨a', c', b, o, hv, ha⟩, -⟩ := h
  injection hv with h1 h2 h3
  subst h1 h2 h3
  exact ⟨b, o, fun h => ha.ad h, ha.nb, fun j hj => ha.el j hj⟩

theorem IsBools.shape {w : World} {v : Value} {l : List Bool} (h : IsBools w v l) : ∃ a c, v = .slice a l.length c := by
  obtain ⟨a, c, b, o, rfl, -⟩ := h
  exact ⟨a, c, rfl⟩

theorem IsInts.shape {w : World} {v : Value} {l : List Int} (h : IsInts w v l) : ∃ a c, v = .slice a l.length c := by
  obtain ⟨⟨a, c, b, o, rfl, -⟩, -⟩ := h
  exact ⟨a, c, rfl⟩

theorem IsBools.data {w : World} {a : Option Addr} {n c : Nat} {l : List Bool} (h : IsBools w (.slice a n c) l) : ∃ b o, (0 < n → a = some ⟨b, o, none⟩) ∧ n ≤ 140737488351232 ∧ ∀ j, j < n → w.cell? ⟨b, o + j, none⟩ = some (.bool (l.getD j false)) := by
  obtain ⟨a', c', b, o, hv, ha⟩ := h
  injection hv with h1 h2 h3
  subst h1 h2 h3
  exact ⟨b, o, fun h => ha.ad h, ha.nb, fun j hj => ha.el j hj⟩

theorem IsInts.data {w : World} {a : Option Addr} {n c : Nat} {l : List Int} (h : IsInts w (.slice a n c) l) : ∃ b o, (0 < n → a = some ⟨b, o, none⟩) ∧ n ≤ 140737488351232 ∧ ∀ j, j < n → w.cell? ⟨b, o + j, none⟩ = some (.int .i64 (l.getD j 0)) := by
  obtain ⟨⟨a', c', b, o, hv, ha⟩, -⟩ := h
  injection hv with h1 h2 h3
  subst h1 h2 h3
  exact ⟨b, o, fun h => ha.ad h, ha.nb, fun j hj => ha.el j hj⟩

theorem lit_wf {a : Int} (h : I64 a) : (Lit.int .i64 a).wf = true := WalkArith.wf_i64 h

theorem idxI_pre {l e : List Int} {y : Int} (h : y ∈ l) : (l ++ e).idxOf y = l.idxOf y := by
  induction l with
  | nil => cases h
  | cons z l ih =>
    rw [List.cons_append, List.idxOf_cons, List.idxOf_cons]
    by_cases e : z = y
    · subst e; simp
    · have hb : (z == y) = false := by simpa using e
      rw [hb, ih ((List.mem_cons.1 h).resolve_left fun x => e x.symm)]

theorem idxI_new {l : List Int} {y : Int} (h : y ∉ l) : (l ++ [y]).idxOf y = l.length := by
  induction l with
  | nil => simp
  | cons z l ih =>
    have e : ¬ z = y := fun x => h (by rw [x]; exact List.mem_cons_self)
    have hb : (z == y) = false := by simpa using e
    rw [List.cons_append, List.idxOf_cons, hb, ih (fun x => h (List.mem_cons_of_mem _ x))]
    simp

theorem intKeyed : Keyed Try.prog 3 := int_keyed Try.underlying3

theorem intKey {q : Int} (h : I64 q) : keyOf Try.prog 3 (.int .i64 q) = some (.int .i64 q) := keyOf_int_mk Try.underlying3 (lit_wf h)

theorem intIsKey {q : Int} (h : I64 q) : Go.WideAt.IsKeyLit (.int .i64 q) := Keyed.key intKeyed (intKey h)

/-- Block b is the map that numbers the states of a list. -/
def NumI (w : World) (b : Nat) (l : List Int) : Prop := ∃ D : DataW Unit, w.ownsMap Try.prog 3 (plainElem Try.prog 3) b l.length D ∧ IsMap D ∧
  (∀ y, I64 y → Maps.has D (.int .i64 y) = decide (y ∈ l)) ∧ ∀ y, I64 y → y ∈ l → D.atKey (.int .i64 y) (.lit (.int .i64 0)) = .lit (.int .i64 (l.idxOf y))

/-- The same, with the number of its keys. -/
def NumL (w : World) (b : Nat) (l : List Int) : Prop := ∃ D : DataW Unit, w.ownsMap Try.prog 3 (plainElem Try.prog 3) b l.length D ∧ IsMap D ∧
  ((∀ y, I64 y → Maps.has D (.int .i64 y) = decide (y ∈ l)) ∧ ∀ y, I64 y → y ∈ l → D.atKey (.int .i64 y) (.lit (.int .i64 0)) = .lit (.int .i64 (l.idxOf y))) ∧ Maps.size D = l.length

theorem NumI.kept {w w' : World} {b : Nat} {l : List Int} {row : Option Nat} (h : NumI w b l) (hg : w.grownBy w' row) (hne : some b ≠ row) : NumI w' b l := by
  obtain ⟨D, h1, h2⟩ := h
  exact ⟨D, h1.kept hg hne, h2⟩

theorem NumI.lt {w : World} {b : Nat} {l : List Int} (h : NumI w b l) : b < w.heap.size := by
  obtain ⟨D, h1, -⟩ := h
  exact h1.lt

theorem NumI.below {w w' : World} {b : Nat} {l : List Int} (h : NumI w b l) (hb : Below w.heap.size w w') : NumI w' b l := h.kept (below_grown hb) (by simp)

theorem NumI.made (w : World) : NumI (w.alloc (.map #[] 0)) w.heap.size [] :=
  ⟨_, World.ownsMap_made w Try.prog 3 _, isMap_empty, fun y _ => by simp [Maps.has], fun y _ hy => absurd hy (by simp)⟩

theorem NumI.put {w' : World} {b : Nat} {l : List Int} {y : Int} {D : DataW Unit} (hm : IsMap D) (hy : I64 y) (hn : y ∉ l)
    (h1 : ∀ z, I64 z → Maps.has D (.int .i64 z) = decide (z ∈ l)) (h2 : ∀ z, I64 z → z ∈ l → D.atKey (.int .i64 z) (.lit (.int .i64 0)) = .lit (.int .i64 (l.idxOf z)))
    (h : w'.ownsMap Try.prog 3 (plainElem Try.prog 3) b (l.length + 1) (D.put (.int .i64 y) (.lit (.int .i64 l.length)))) : NumI w' b (l ++ [y]) := by
  refine ⟨_, by rw [List.length_append, List.length_singleton]; exact h, hm.put _ _, fun z hz => ?_, fun z hz hzl => ?_⟩
  · by_cases e : z = y
    · subst e
      rw [has_put_same hm (intIsKey hz)]; simp
    · rw [has_put_other (fun k => e (by injection k)), h1 z hz]
      simp [e]
  · by_cases e : z = y
    · subst e
      rw [idxI_new hn, atKey_put_same hm (intIsKey hz)]
    · have hzl' : z ∈ l := by
        rcases List.mem_append.1 hzl with h | h
        · exact h
        · exact absurd (List.mem_singleton.1 h) e
      rw [atKey_put_other (fun k => e (by injection k)), h2 z hz hzl', idxI_pre hzl']

theorem NumL.num {w : World} {b : Nat} {l : List Int} (h : NumL w b l) : NumI w b l := by
  obtain ⟨D, h1, h2, h3, -⟩ := h
  exact ⟨D, h1, h2, h3⟩

theorem NumL.kept {w w' : World} {b : Nat} {l : List Int} {row : Option Nat} (h : NumL w b l) (hg : w.grownBy w' row) (hne : some b ≠ row) : NumL w' b l := by
  obtain ⟨D, h1, h2⟩ := h
  exact ⟨D, h1.kept hg hne, h2⟩

theorem NumL.made (w : World) : NumL (w.alloc (.map #[] 0)) w.heap.size [] :=
  ⟨_, World.ownsMap_made w Try.prog 3 _, isMap_empty, ⟨fun y _ => by simp [Maps.has], fun y _ hy => absurd hy (by simp)⟩, rfl⟩

theorem one_set {w : World} {z : Nat} {t : TypeId} {c d : Value} (h : w.heap[z]? = some (.cells #[c] t (0, 0))) : (w.setCell ⟨z, 0, none⟩ d).heap[z]? = some (.cells #[d] t (0, 0)) := by
  have := heap_setCell_same w z 0 _ _ d h
  simpa using this

theorem Only.to_below {S : Nat → Prop} {a w w' : World} (hb : Below a.heap.size a w) (h : Only S w w') (hS : ∀ k, S k → a.heap.size ≤ k) : Below a.heap.size a w' := hb.trans (h.below _ hS hb.size)

/-- The slice of one number in a block of its own. -/
theorem IsInts.box1 {W : World} {h : Nat} {x : Int} (hh : W.heap[h]? = some (.cells #[.int .i64 x] 3 (0, 0))) (hx : I64 x) : IsInts W (.slice (some ⟨h, 0, none⟩) 1 1) [x] := by
  refine ⟨⟨_, _, h, 0, rfl, Nat.le_refl _, by simp [maxLen], by simp [maxN], (fun h => by cases h), fun _ => rfl, fun j hj => ?_⟩, fun y hy => by rw [List.mem_singleton.1 hy]; exact hx⟩
  obtain rfl : j = 0 := by simpa using hj
  exact cell_of_row _ _ 0 _ _ _ hh

/-- What the loop of newGraph writes to. -/
def HotN (nb ob : Nat) (va : Value) (B k : Nat) : Prop := k = nb ∨ va.ownBlock = some k ∨ B ≤ k ∨ k = ob

/-- What the loop of newGraph has made. -/
structure NG (W : World) (B nb ob n : Nat) (va : Value) (vals : List Value) (al : List Int) (nx : List (List Int)) : Prop where
  a : OI W B va al
  o : W.ownsRow 0 22 1 (.slice (some ⟨nb, 0, none⟩) n n) n vals
  e : ∀ j, j < n → ∀ W', Only (HotN nb ob va W.heap.size) W W' → IsInts W' (vals.getD j undef) (nx.getD j [])
  lx : nx.length = n
  lt : nb < B

theorem NG.lv {W : World} {B nb ob n : Nat} {va : Value} {vals : List Value} {al : List Int} {nx : List (List Int)} (h : NG W B nb ob n va vals al nx) : vals.length = n := by
  have := h.o.1
  simpa using this

theorem NG.below {W W1 : World} {B nb ob n : Nat} {va : Value} {vals : List Value} {al : List Int} {nx : List (List Int)} (h : NG W B nb ob n va vals al nx) (hb : Below W.heap.size W W1) : NG W1 B nb ob n va vals al nx := by
  refine ⟨h.a.below hb, World.ownsRow.kept h.o (below_grown hb) (.inr (by simp [Value.ownBlock])), fun j hj W' hW => h.e j hj W' ((Only.of_below hb).trans (hW.mono fun k _ hk => ?_)), h.lx, h.lt⟩
  rcases hk with hk | hk | hk | hk
  · exact .inl hk
  · exact .inr (.inl hk)
  · exact .inr (.inr (.inl (Nat.le_trans hb.size hk)))
  · exact .inr (.inr (.inr hk))

theorem NG.put {W : World} {B nb ob n : Nat} {va : Value} {vals : List Value} {al : List Int} {nx : List (List Int)} (h : NG W B nb ob n va vals al nx) {k : Nat} (hk : k < n) {u : Value} {r : List Int}
    (hu : ∀ W', Only (HotN nb ob va W.heap.size) W W' → IsInts W' u r) : NG (W.setCell ⟨nb, k, none⟩ u) B nb ob n va (vals.set k u) al (nx.set k r) := by
  have hs : Only (HotN nb ob va W.heap.size) W (W.setCell ⟨nb, k, none⟩ u) := Only.set nb k u (.inl rfl)
  have hs1 : Only (fun k => k = nb) W (W.setCell ⟨nb, k, none⟩ u) := Only.set nb k u rfl
  refine ⟨h.a.only hs1 fun b hb hk => ?_, (World.ownsRow.stored h.o k u).1, fun j hj W' hW => ?_, by simp [h.lx], h.lt⟩
  · have h1 := h.a.ge b hb
    have h3 := h.lt
    omega
  · have hW2 := hs.trans (hW.mono fun k _ hk => by simpa [HotN] using hk)
    by_cases e : k = j
    · subst e
      rw [getD_set_eq _ _ _ _ (by rw [h.lv]; exact hk), getD_set_eq _ _ _ _ (by rw [h.lx]; exact hk)]
      exact hu W' hW2
    · rw [getD_set_ne _ _ _ _ _ e, getD_set_ne _ _ _ _ _ e]
      exact h.e j hj W' hW2

/-- The head of a row. -/
theorem OI.cut {w : World} {B g n cap : Nat} {l : List Int} (h : OI w B (.slice (some ⟨g, 0, none⟩) n cap) l) {k : Nat} (hk : k ≤ l.length) : OI w B (.slice (some ⟨g, 0, none⟩) k cap) (l.take k) := by
  have hl : (l.take k).length = k := by rw [List.length_take]; omega
  unfold OI at h ⊢
  rw [hl]
  refine ⟨by simp; omega, ?_⟩
  rcases h.2 with ⟨h', _⟩ | ⟨g', cap', cur, hv, hb, hg, hnc, hcm, hcs, ht⟩
  · cases h'
  · refine .inr ⟨g', cap', cur, ?_, hb, hg, by omega, hcm, hcs, ?_⟩
    · injection hv with h1 h2 h3
      rw [h1, h3]
    · rw [Nat.mul_one] at ht ⊢
      rw [List.map_take, ← ht, List.take_take, Nat.min_eq_left hk]

def castL (l : List Nat) : List Int := l.map Int.ofNat

/-- The addresses of the search. -/
structure Va where
  zo : Nat
  mb : Nat
  zs : Nat
  zr : Nat
  zv : Nat
  za : Nat
  gb : Nat
  nb : Nat
  ob : Nat
  n : Nat
  V : Nat → Value

/-- What the search writes to. -/
def HotV (D : Va) (vs va : Value) (B k : Nat) : Prop := k = D.mb ∨ k = D.zs ∨ k = D.za ∨ k = D.ob ∨ vs.ownBlock = some k ∨ va.ownBlock = some k ∨ B ≤ k

/-- 'append' of numbers in a region that draws its order; it tells where the new row lies. -/
theorem wp_app_intsM {o : Oper} {a : Act} {K : Act → World → Prop} {Q : Exit → Act → World → Prop} (w : World) (s x : Operand)
    (ho : o.op = .call { callee := .builtin .append, args := #[s, x], argTypes := #[22, 22] })
    (base : Nat) (v v2 : Value) (l l2 : List Int) (hs : a.eval s = v) (hown : OI w base v l) (hx : a.eval x = v2) (hsrc : IsInts w v2 l2)
    (hn : l.length + l2.length ≤ 17592186043904) (hbase : base ≤ w.heap.size)
    (h : ∀ v' w', OI w' base v' (l ++ l2) → w.grownBy w' v.ownBlock → Moved w v v' → K (a.put o.dst v') w') : Oper.wp Try.prog o a w K Q := by
  obtain ⟨i, hi, hz0, hz1, hz2⟩ := info_parts info_int
  obtain ⟨⟨ao, cap, b, off, rfl, g⟩, -⟩ := hsrc
  have e : (List.range l2.length).map (ivF l2) = l2.map (Value.int .i64) := by
    apply List.ext_getElem (by simp)
    intro j h1 h2
    have : j < l2.length := by simpa using h1
    simp [ivF, this]
  cases ao with
  | none =>
    have hm0 : l2.length = 0 := by rcases Nat.eq_zero_or_pos l2.length with h0 | h0; exact h0; have := g.ad h0; cases this
    have hl2 := List.eq_nil_of_length_eq_zero hm0
    subst hl2
    obtain rfl := g.nc rfl
    have hrun := run_append_owned_none (P := Try.prog) (w := w) base 22 o.type 3 i 1 Try.underlying22 hi v l.length _ hown
    unfold Oper.wp execOp
    simp only [ho, resolve, invoke, builtin, Sem.run_bind, Sem.run_pure, Result.andThen_ok, List.map_toArray, List.map_cons, List.map_nil, hs, hx]
    simp only [List.length_nil, hrun]
    exact h _ _ (by simpa using hown) (grown_refl _ _) (Moved.refl _ _)
  | some ad =>
    obtain ⟨v', w', hr, h2, h3, h4, h5⟩ := run_append_own_at (P := Try.prog) (w := w) base 22 o.type 3 i _ 1 8 Try.underlying22 hi hz0 hz1 hz2 rfl (by decide) v l.length _ hown ad l2.length cap ((List.range l2.length).map (ivF l2)) (by simp) (by
      intro j u hj
      have hjm : j < l2.length := by
        rcases Nat.lt_or_ge j l2.length with h | h
        · exact h
        · simp [Nat.not_lt.2 h] at hj
      have hadd := g.ad (by omega)
      simp only [Option.some.injEq] at hadd
      subst hadd
      have : ivF l2 j = u := by simpa [hjm] using hj
      subst this
      have h2 := g.el j hjm
      unfold Addr.add
      split
      · subst j; exact h2
      · exact h2) (by
      intro u hu
      obtain ⟨j, _, rfl⟩ := List.mem_map.1 hu
      rfl) (by simp only [maxLen]; omega) (by omega) hbase
    unfold Oper.wp execOp
    simp only [ho, resolve, invoke, builtin, Sem.run_bind, Sem.run_pure, Result.andThen_ok, List.map_toArray, List.map_cons, List.map_nil, hs, hx, hr]
    refine h _ _ ?_ h3 fun q hq => ?_
    · unfold OI
      rw [e] at h2
      simpa using h2
    · rcases h5 with k | k
      · left; rw [← k]; exact hq
      · right; rw [k] at hq; injection hq with hq; omega

/-- The row of slices. -/
theorem IsRows.data {w : World} {v : Value} {ll : List (List Int)} (h : IsRows w v ll) : ∃ a c b o, ∃ V : Nat → Value, v = .slice a ll.length c ∧ (0 < ll.length → a = some ⟨b, o, none⟩) ∧ ll.length ≤ 140737488351232 ∧ ∀ j, j < ll.length → w.cell? ⟨b, o + j, none⟩ = some (V j) ∧ IsInts w (V j) (ll.getD j []) := by
  obtain ⟨V, ⟨a, c, b, o, rfl, ha⟩, hr⟩ := h
  exact ⟨a, c, b, o, V, rfl, fun h => ha.ad h, ha.nb, fun j hj => ⟨ha.el j hj, hr j hj⟩⟩

theorem two_set {w : World} {z : Nat} {t : TypeId} {a b c d : Value} (h : w.heap[z]? = some (.cells #[a, b] t (0, 0))) : ((w.setCell ⟨z, 0, none⟩ c).setCell ⟨z, 1, none⟩ d).heap[z]? = some (.cells #[c, d] t (0, 0)) := by
  have h1 := heap_setCell_same w z 0 _ _ c h
  have h2 := heap_setCell_same _ z 1 _ _ d h1
  simpa using h2

def RD1 (B0 gW cap f L : Nat) (st lp : List Int) (ix : Nat) (u : Value) (W : World) : Prop :=
  match ix with
  | 0 => u = .slice (some ⟨gW, 0, none⟩) L cap
  | 1 => u = .int .i64 (f : Int)
  | 2 => u = .slice (some ⟨gW, 0, none⟩) f cap
  | 3 => OI W B0 u st
  | 4 => u = .slice (some ⟨gW, 0, none⟩) L cap
  | 5 => u = .int .i64 (f : Int)
  | 6 => u = .slice (some ⟨gW, f, none⟩) (L - f) (cap - f)
  | 7 => OI W B0 u lp
  | 8 => ∃ v0 v1, u = .agg #[v0, v1] ∧ OI W B0 v0 st ∧ OI W B0 v1 lp
  | _ => True

theorem RD1.mono (B0 gW cap f L : Nat) (st lp : List Int) (ix : Nat) (v : Value) (W W' : World) (h : RD1 B0 gW cap f L st lp ix v W) (hb : Below W.heap.size W W') : RD1 B0 gW cap f L st lp ix v W' := by
  unfold RD1 at *
  split at h
  · exact h
  · exact h
  · exact h
  · exact h.below hb
  · exact h
  · exact h
  · exact h
  · exact h.below hb
  · obtain ⟨v0, v1, e, h1, h2⟩ := h
    exact ⟨v0, v1, e, h1.below hb, h2.below hb⟩
  · trivial

theorem ints_lit {w : World} {g : Nat} (l : List Int) (h : w.heap[g]? = some (.cells (l.map (Value.int .i64)).toArray 3 (0, 0))) (hn : l.length ≤ 3000) (hI : ∀ x ∈ l, I64 x) : IsInts w (.slice (some ⟨g, 0, none⟩) l.length l.length) l := by
  refine ⟨⟨_, _, g, 0, rfl, Nat.le_refl _, by simp only [maxLen]; omega, by simp only [maxN]; omega, (fun h => by cases h), fun _ => rfl, fun j hj => ?_⟩, hI⟩
  rw [Nat.zero_add, cell_of_row w g j _ _ _ h]
  simp [ivF, List.getD, hj]

theorem rows_lit {w : World} {g : Nat} (ll : List (List Int)) (vals : List Value) (h : w.heap[g]? = some (.cells vals.toArray 22 (0, 0))) (hl : vals.length = ll.length) (hn : ll.length ≤ 3000) (hr : ∀ j, j < ll.length → IsInts w (vals.getD j undef) (ll.getD j [])) : IsRows w (.slice (some ⟨g, 0, none⟩) ll.length ll.length) ll := by
  refine ⟨fun j => vals.getD j undef, ⟨_, _, g, 0, rfl, Nat.le_refl _, by simp only [maxLen]; omega, by simp only [maxN]; omega, (fun h => by cases h), fun _ => rfl, fun j hj => ?_⟩, hr⟩
  rw [Nat.zero_add, cell_of_row w g j _ _ _ h]
  simp [List.getD, show j < vals.length by omega]

/-- A box in new memory. -/
theorem box_new {w0 w : World} {B : Nat} (hb : Below B w0 w) (hB : B ≤ w.heap.size) (cs : Array Value) (t : TypeId) : (w.alloc (.cells cs t)).heap[w.heap.size]? = some (.cells cs t (0, 0)) ∧ Below w.heap.size w (w.alloc (.cells cs t)) ∧ Below B w0 (w.alloc (.cells cs t)) :=
  ⟨heap_alloc_new _ _, bel_box _, hb.trans ((bel_box _).mono hB)⟩

theorem IsGame.shape {w : World} {v : Value} {g : Gm} (h : IsGame w v g) : ∃ a0 c0 a1 c1 a2 c2, v = .agg #[.slice a0 g.owner.length c0, .slice a1 g.prio.length c1, .slice a2 g.succ.length c2] := by
  obtain ⟨v0, v1, v2, rfl, ⟨⟨a0, c0, -, -, rfl, -⟩, -⟩, ⟨⟨a1, c1, -, -, rfl, -⟩, -⟩, ⟨V, ⟨a2, c2, -, -, rfl, -⟩, -⟩⟩ := h
  exact ⟨_, _, _, _, _, _, rfl⟩

theorem bel_step {w4 W W3 : World} (h : Below w4.heap.size w4 W) (hb : Below W.heap.size W W3) : Below w4.heap.size w4 W3 := h.trans (hb.mono h.size)

theorem bel_step1 {w4 W W3 : World} (h : Below w4.heap.size w4 W) (hb : Below W.drew.heap.size W.drew W3) : Below w4.heap.size w4 W3 := (h.trans (Below.drew (Below.refl _ _))).trans (hb.mono h.size)

end Go.Proofs.Ytijkjhcigdfdgaa
