/- What Solve does. -/
import Derived.Test.YtjhafakkadnfmaaSo13
import Derived.Test.YtjhafakkadnfmaaP17
namespace Go.Proofs.Ytjhafakkadnfmaa
open Go.RowKit

/-- The winners of a game. -/
def IsSol (g : Gm) (l : List Int) : Prop := (validB g = false → l = []) ∧ (validB g = true → l.length = g.owner.length ∧ Sol g (fun i => i < g.owner.length) (fun i => l.getD i 0))

theorem valid_fits {g : Gm} (h : validB g = true) (p : Int) (hp : p = 0 ∨ p = 1) : Fits g p g.owner.length :=
  fits_of (by unfold fitsB; rw [h]; rcases hp with rfl | rfl <;> simp)
theorem valid_own {g : Gm} (h : validB g = true) (i : Nat) (hi : i < g.owner.length) : own g i = 0 ∨ own g i = 1 := by
  have := (valid_fits h 0 (.inl rfl)).ow i hi
  unfold own; omega
theorem valid_pri {g : Gm} (h : validB g = true) (i : Nat) (hi : i < g.owner.length) : 0 ≤ g.prio.getD i 0 ∧ g.prio.getD i 0 ≤ 30000 := by
  obtain ⟨a, b, c⟩ := valid_lens h
  have hv := (validB_iff g a b c).1 h i hi
  simp only [okB, Bool.and_eq_true, decide_eq_true_eq] at hv
  exact hv.1.1.2
theorem valid_rg {g : Gm} (h : validB g = true) (i : Nat) (hi : i < g.owner.length) : ∀ x ∈ g.succ.getD i [], ∃ v : Nat, x = v ∧ v < g.owner.length := fun x hx => by
  obtain ⟨h0, h1⟩ := (valid_fits h 0 (.inl rfl)).rg i hi x hx
  exact ⟨x.toNat, by omega, by omega⟩

theorem IsSol.unique {g : Gm} {l l' : List Int} (h : IsSol g l) (h' : IsSol g l') : l = l' := by
  cases hv : validB g with
  | false => rw [h.1 hv, h'.1 hv]
  | true =>
    obtain ⟨a, b⟩ := h.2 hv
    obtain ⟨a', b'⟩ := h'.2 hv
    refine ext_getI (by rw [a, a']) fun i hi => ?_
    exact b.unique (n := g.owner.length) b' (fun _ h => h) (valid_own hv) i (by omega)

/-! The lists of newSolver. -/

theorem nsAl_len (n k : Nat) : (nsAl n k).length = n := by induction k with | zero => simp [nsAl] | succ k ih => simp [nsAl, ih]
theorem nsLf_len (g : Gm) (n k : Nat) : (nsLf g n k).length = n := by induction k with | zero => simp [nsLf] | succ k ih => simp [nsLf, ih]
theorem nsQ_len (n k : Nat) : (nsQ n k).length = n := by induction k with | zero => simp [nsQ] | succ k ih => simp [nsQ, ih]
theorem nsBf_len (g : Gm) (n k : Nat) : (nsBf g n k).length = n := by induction k with | zero => simp [nsBf] | succ k ih => simp [nsBf, pushAll_len, ih]
theorem nsAl_get (n j : Nat) (hj : j < n) (k : Nat) (hk : k ≤ n) : (nsAl n k).getD j false = decide (j < k) := by
  induction k with
  | zero => simp [nsAl, List.getD, hj]
  | succ k ih =>
    rw [nsAl, getD_setB _ _ _ _ (by rw [nsAl_len]; omega)]
    by_cases e : k = j
    · subst e; simp
    · rw [if_neg e, ih (by omega)]; simp; omega
theorem nsLf_get (g : Gm) (n j : Nat) (k : Nat) (hk : k ≤ n) (hj : j < k) : (nsLf g n k).getD j 0 = ((g.succ.getD j []).length : Int) := by
  induction k with
  | zero => omega
  | succ k ih =>
    rw [nsLf, getD_setI _ _ _ _ (by rw [nsLf_len]; omega)]
    by_cases e : k = j
    · subst e; simp
    · rw [if_neg e, ih (by omega) (by omega)]
theorem nsQ_get (n j : Nat) (k : Nat) (hk : k ≤ n) (hj : j < k) : (nsQ n k).getD j 0 = (j : Int) := by
  induction k with
  | zero => omega
  | succ k ih =>
    rw [nsQ, getD_setI _ _ _ _ (by rw [nsQ_len]; omega)]
    by_cases e : k = j
    · subst e; simp
    · rw [if_neg e, ih (by omega) (by omega)]
theorem nsBf_beg (g : Gm) (n k : Nat) : nsBf g n k = (begSt g [] n k).bf := by
  induction k with
  | zero => rfl
  | succ k ih => simp only [nsBf, begSt, ih]; split <;> rfl

theorem ns_gok {g : Gm} (hv : validB g = true) (hS : ∀ i, (g.succ.getD i []).length ≤ 1000) : GOK g g.owner.length (nsBf g g.owner.length g.owner.length) := by
  have F := valid_fits hv 0 (.inl rfl)
  have hB := begSt_is g [] g.owner.length F.rg hS g.owner.length (Nat.le_refl _)
  refine ⟨F.le, rfl, F.pn, nsBf_len _ _ _, ⟨fun u x hx => ?_, fun u v hu hv => ?_⟩, fun u => ?_, hS, valid_rg hv, valid_own hv, valid_pri hv⟩
  · rw [nsBf_beg] at hx
    by_cases hu : u < g.owner.length
    · obtain ⟨v, h1, h2⟩ := hB.bm u hu x hx
      exact ⟨v, h2, h1⟩
    · exfalso
      have := (begSt_len g [] g.owner.length g.owner.length).2
      simp [List.getD, List.getElem?_eq_none (by omega : (begSt g [] g.owner.length g.owner.length).bf.length ≤ u)] at hx
  · rw [nsBf_beg, hB.bf u hu v, if_pos hv]
  · have h1 := nsBf_row g g.owner.length hS g.owner.length u
    have h2 := F.le
    omega
theorem ns_mem (n : Nat) : Mem n (nsAl n n) (nsQ n n) := by
  refine ⟨fun x hx => ?_, fun v hv _ => ?_, ?_⟩
  · obtain ⟨j, hj, e⟩ := mem_get hx
    rw [nsQ_len] at hj
    rw [nsQ_get n j n (Nat.le_refl _) hj] at e
    exact ⟨j, e.symm, hj, by rw [nsAl_get n j hj n (Nat.le_refl _)]; simp [hj]⟩
  · have := get_mem (l := nsQ n n) (j := v) (by rw [nsQ_len]; exact hv)
    rwa [nsQ_get n v n (Nat.le_refl _) hv] at this
  · refine List.pairwise_iff_getElem.2 fun i j hi hj hij => ?_
    have h1 := nsQ_get n i n (Nat.le_refl _) (by rw [nsQ_len] at hi; exact hi)
    have h2 := nsQ_get n j n (Nat.le_refl _) (by rw [nsQ_len] at hj; exact hj)
    rw [getD_lt _ _ _ hi] at h1
    rw [getD_lt _ _ _ hj] at h2
    rw [h1, h2]; omega
theorem ns_set (n i : Nat) : setOf (nsAl n n) i ↔ i < n := by
  constructor
  · intro h; have := set_lt h; rwa [nsAl_len] at this
  · intro h; unfold setOf; rw [nsAl_get n i h n (Nat.le_refl _)]; simp [h]
theorem ns_lf {g : Gm} (hv : validB g = true) : LfOK g g.owner.length (nsAl g.owner.length g.owner.length) (nsLf g g.owner.length g.owner.length) := fun v hvn => by
  rw [nsLf_get g _ v _ (Nat.le_refl _) hvn]
  have : (g.succ.getD v []).countP (inS (nsAl g.owner.length g.owner.length)) = (g.succ.getD v []).length := by
    rw [List.countP_eq_length]
    intro x hx
    obtain ⟨y, rfl, hy⟩ := valid_rg hv v hvn x hx
    exact (ns_set _ y).2 hy
  rw [this]
theorem ns_tot {g : Gm} (hv : validB g = true) : TotB g g.owner.length (nsAl g.owner.length g.owner.length) := fun v hvn _ => by
  have hne := (valid_fits hv 0 (.inl rfl)).ne v hvn
  obtain ⟨x, hx⟩ := List.exists_mem_of_ne_nil _ hne
  obtain ⟨y, rfl, hy⟩ := valid_rg hv v hvn x hx
  exact ⟨(y : Int), hx, (ns_set _ y).2 hy⟩

/-- The solver that newSolver leaves. -/
theorem NS.sv {w wr : World} {g : Gm} {n sp ba bl bw ob bq : Nat} {v0 v1 v2 : Value} {vals : List Value} {al : List Bool} {lf aq : List Int} {bf : List (List Int)} (h : NS w wr n sp ba bl bw ob bq v0 v1 v2 vals al lf aq bf) (hg : IsGame w (.agg #[v0, v1, v2]) g) (hG : GOK g n bf) :
    Sv wr.heap.size wr ⟨sp, ba, bl, bw, v0, v1, v2, .slice (some ⟨ob, 0, none⟩) n n, fun j => vals.getD j undef⟩ g n bf al lf (List.replicate n 0) := by
  have hne := h.ne
  have hgt := h.gt
  have hl := h.lt
  obtain ⟨u0, u1, u2, hu, i0, i1, -⟩ := hg
  obtain ⟨rfl, rfl, rfl⟩ : v0 = u0 ∧ v1 = u1 ∧ v2 = u2 := by simpa using hu
  have hh : ∀ k, (⟨sp, ba, bl, bw, v0, v1, v2, .slice (some ⟨ob, 0, none⟩) n n, fun j => vals.getD j undef⟩ : Ad).hot k → k = ba ∨ k = bl ∨ k = bw := fun k h => h
  refine ⟨fun W hW => ?_, ?_, ?_, ?_, h.la, h.ll, by simp, ⟨hne.1.1, hne.1.2.1, hne.1.2.2.1⟩, ⟨hl.2.1, hl.2.2.1, hl.2.2.2.1⟩⟩
  · have hb : Below w.heap.size w W := h.bx.trans (hW.below _ (fun k hk => by
      rcases hk with hk | hk
      · have := hh k hk; omega
      · omega) h.bx.size)
    have hR := h.R.only hW (fun e => by
      rcases e with e | e
      · have := hh _ e; omega
      · omega) (fun j hj b hb e => by
      have := h.x j hj b hb
      have := (h.R.e j hj).lt' b hb
      rcases e with e | e
      · have := hh _ e; omega
      · omega)
    refine ⟨?_, i0.below hb, i1.below hb, ?_, fun j hj => ?_⟩
    · exact (hW.block _ hl.1 (fun e => by
      rcases e with e | e
      · have := hh _ e; omega
      · omega)).trans h.box
    · refine ownsRow_arr hR.o (by have := hG.n3; unfold maxN; omega) _ fun j hj => ?_
      show vals[j]? = some (vals.getD j undef)
      rw [List.getD_eq_getElem?_getD, List.getElem?_eq_getElem (by rw [h.R.lv]; exact hj)]; rfl
    · refine (hR.e j hj).is (by have := hG.bs j; unfold maxN; omega) fun x hx => ?_
      obtain ⟨v, rfl, hv⟩ := hG.bo.rg j x hx
      have := hG.n3
      unfold I64; omega
  · exact ⟨h.A.1, h.A.2.imp_right fun ⟨g0, cap, cur, e, h1, h2⟩ => ⟨g0, cap, cur, e, Nat.zero_le _, h2⟩⟩
  · exact h.L.down (Nat.zero_le _)
  · exact h.W.down (Nat.zero_le _)

theorem ints_nil0 (w : World) : IsInts w (.slice none 0 0) [] := ⟨⟨none, 0, 0, 0, rfl, Nat.le_refl _, Nat.zero_le _, Nat.zero_le _, fun _ => rfl, (fun h => absurd h (by simp)), fun j hj => absurd hj (by simp)⟩, by simp⟩

/-- What Solve leaves. -/
def Solved (g : Gm) (w : World) (e : Ending) (w' : World) : Prop := ∃ v l, e = .returned v ∧ IsInts w' v l ∧ IsSol g l ∧ Below w.heap.size w w'

set_option maxRecDepth 100000 in
set_option maxHeartbeats 4000000 in
theorem Solve_c (w : World) (vg : Value) (g : Gm) (hg : IsGame w vg g) (hS : ∀ i, (g.succ.getD i []).length ≤ 1000) :
    Calls Try.prog 13 #[vg] w (Solved g w) := by
  obtain ⟨v0, v1, v2, rfl, i0, i1, i2⟩ := id hg
  have HG := Lib.hid hg
  clear hg
  obtain ⟨⟨ao0, cap0, b0, off0, rfl, -⟩, -⟩ := i0
  obtain ⟨⟨ao1, cap1, b1, off1, rfl, -⟩, -⟩ := i1
  obtain ⟨V, ⟨ao2, cap2, b2, off2, rfl, -⟩, -⟩ := i2
  go_enter Try.func13, Try.ntmps13
  go_upto_region 1 with (fail)
  have hb1 := bel_box (w := w) (Obj.cells #[Value.slice ao0 g.owner.length cap0, Value.slice ao1 g.prio.length cap1, Value.slice ao2 g.succ.length cap2] 25)
  have hgb : Hid (∀ W, Below (w.alloc (Obj.cells #[Value.slice ao0 g.owner.length cap0, Value.slice ao1 g.prio.length cap1, Value.slice ao2 g.succ.length cap2] 25)).heap.size (w.alloc (Obj.cells #[Value.slice ao0 g.owner.length cap0, Value.slice ao1 g.prio.length cap1, Value.slice ao2 g.succ.length cap2] 25)) W → W.heap[w.heap.size]? = some (Obj.cells #[Value.slice ao0 g.owner.length cap0, Value.slice ao1 g.prio.length cap1, Value.slice ao2 g.succ.length cap2] 25 (0, 0))) := fun W hW => (hW.block _ (by simp)).trans (heap_alloc_new w _)
  generalize (w.alloc (Obj.cells #[Value.slice ao0 g.owner.length cap0, Value.slice ao1 g.prio.length cap1, Value.slice ao2 g.succ.length cap2] 25)) = w1 at *
  have HB1 := Lib.hid hb1
  clear hb1
  have d0 := cell_of_row _ _ 0 _ _ _ (hgb.out w1 (Below.refl _ _))
  have d1 := cell_of_row _ _ 1 _ _ _ (hgb.out w1 (Below.refl _ _))
  have d2 := cell_of_row _ _ 2 _ _ _ (hgb.out w1 (Below.refl _ _))
  go_wp2_with fail
  refine (AValid_c w1 _ g (HG.out.below HB1.out)).mono ?_
  rintro e w2 ⟨rfl, hb2⟩
  have d0 := cellB hb2 d0
  have d1 := cellB hb2 d1
  have d2 := cellB hb2 d2
  have HB2 := Lib.hid (HB1.out.trans (hb2.mono HB1.out.size))
  clear hb2 hgb
  cases hv : validB g with
  | false =>
    have HV := Lib.hid hv
    clear hv
    go_wp2
    go_ret
    exact ⟨_, [], rfl, ints_nil0 _, ⟨fun _ => rfl, fun h => by rw [HV.out] at h; cases h⟩, HB2.out⟩
  | true =>
    have HV := Lib.hid hv
    clear hv
    go_wp2_with fail
    refine (newSolver_c w2 _ _ _ g g.owner.length (HG.out.below HB2.out) (valid_fits HV.out 0 (.inl rfl)) hS).mono ?_
    rintro e w3 ⟨sp, ba, bl, bw, ob, bq, vals, rfl, hN⟩
    have hG := ns_gok HV.out hS
    have hSv := hN.sv (HG.out.below HB2.out) hG
    have HK : Hid (Kp w3.heap.size w3 ⟨sp, ba, bl, bw, .slice ao0 g.owner.length cap0, .slice ao1 g.prio.length cap1, .slice ao2 g.succ.length cap2, .slice (some ⟨ob, 0, none⟩) g.owner.length g.owner.length, fun j => vals.getD j undef⟩ (.slice (some ⟨bq, 0, none⟩) g.owner.length g.owner.length) (nsQ g.owner.length g.owner.length)) := fun W hW => (hN.Q.only hW fun k hk e => by
      have := ownB hk
      have h1 := hN.ne
      have h2 := hN.lt
      rcases e with e | e
      · have : k = ba ∨ k = bl ∨ k = bw := e
        omega
      · omega).is (by rw [nsQ_len]; have := hG.n3; unfold maxN; omega) (mem_I64 hG.n3 fun x hx => by obtain ⟨v, e, h, -⟩ := (ns_mem g.owner.length).rg x hx; exact ⟨v, e, h⟩)
    have HN := Lib.hid hN
    have HS3 := Lib.hid hSv
    have HGO := Lib.hid hG
    clear hN hSv hG
    go_wp2_with fail
    refine (run_c w3 ⟨sp, ba, bl, bw, .slice ao0 g.owner.length cap0, .slice ao1 g.prio.length cap1, .slice ao2 g.succ.length cap2, .slice (some ⟨ob, 0, none⟩) g.owner.length g.owner.length, fun j => vals.getD j undef⟩ g g.owner.length _ _ _ _ _ _ HS3.out HGO.out HK.out (ns_mem _) (ns_lf HV.out) (ns_tot HV.out)).mono ?_
    rintro e w4 ⟨rfl, wn, ha, hl, hw, hwl, ho, hs, -⟩
    have HS4 := Lib.hid (HS3.out.after ho.orB ha hl hw (nsAl_len _ _) (nsLf_len _ _ _) hwl)
    have c6 := HS4.out.field 6 rfl
    have hB4 : Below w.heap.size w w4 := by
      have h1 := HB2.out.trans (HN.out.bx.mono HB2.out.size)
      exact h1.trans (ho.below _ (fun k hk => by have := HN.out.gt; have := HB2.out.size; have h3 : k = ba ∨ k = bl ∨ k = bw := hk; omega) h1.size)
    have hfin : Hid (IsInts w4 (.slice (some ⟨bw, 0, none⟩) g.owner.length g.owner.length) wn) := HS4.out.w.is (by have := HGO.out.n3; unfold maxN; omega) fun x hx => by
      obtain ⟨j, hj, rfl⟩ := mem_get hx
      have := hs.two j ((ns_set _ j).2 (by omega))
      unfold I64; omega
    have hsol : Hid (IsSol g wn) := ⟨fun h => (by rw [HV.out] at h; cases h), fun _ => ⟨hwl, hs.congrS fun i => ns_set _ i⟩⟩
    clear ha hl hw ho hs hwl
    go_wp2
    go_ret
    exact ⟨_, wn, rfl, hfin.out, hsol.out, hB4⟩

end Go.Proofs.Ytjhafakkadnfmaa
