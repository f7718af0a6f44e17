/- lower, plain: what is read off the components' matrices. -/
import Derived.Test.YtdkpdpcecjcmcaaQRd39
namespace Go.Proofs.Ytdkpdpcecjcmcaa

section
variable {E : Nat → Nat → Prop} {i j u : Nat}
theorem P1.rch (h : P1 E i j) : Rch E i j := by obtain ⟨u, e, r⟩ := h; exact (Rch.one e).trans r
theorem P1.post (h : P1 E i u) (h' : Rch E u j) : P1 E i j := by obtain ⟨v, e, r⟩ := h; exact ⟨v, e, r.trans h'⟩
theorem P1.pre (h : Rch E i u) (h' : P1 E u j) : P1 E i j := by
  induction h with
  | refl => exact h'
  | step _ e ih => exact ih ⟨_, e, h'.rch⟩
theorem P1.one (e : E i j) : P1 E i j := ⟨_, e, Rch.refl _⟩
end
/-- The matrix tells the paths. -/
def PathM (a : Au) (k : Nat) (S M : Nat → Nat → Bool) : Prop := ∀ i j, i < a.next.length → j < a.next.length → (M i j = true ↔ P1 (EdS (tgN a.next) (SetB a.next.length k S)) i j)
section
variable {a : Au} {k r i x : Nat} {S M : Nat → Nat → Bool} {rs : List Nat}
theorem cmpW_S (h : cmpW a S M r i x = true) : S i x = true := by
  unfold cmpW at h
  simp only [Bool.and_eq_true] at h
  exact h.2.1
theorem cmp_iff (hA : AuV a k) (hP : PathM a k S M) (hr : r < a.next.length) (hi : i < a.next.length) (hx : x < k) :
    cmpW a S M r i x = true ↔ S i x = true ∧ P1 (EdS (tgN a.next) (SetB a.next.length k S)) r i ∧ P1 (EdS (tgN a.next) (SetB a.next.length k S)) (nxI a i x) r := by
  have ht : nxI a i x < a.next.length := by have := hA.nx i x hi hx; unfold nxI; omega
  unfold cmpW conW
  simp only [Bool.and_eq_true, hP r i hr hi, hP i r hi hr, hP r (nxI a i x) hr ht, hP (nxI a i x) r ht hr]
  constructor
  · rintro ⟨⟨h1, h2⟩, h3, h4, h5⟩; exact ⟨h3, h1, h5⟩
  · rintro ⟨h3, h1, h5⟩
    have e : EdS (tgN a.next) (SetB a.next.length k S) i (nxI a i x) := ⟨(i, x), ⟨hi, hx, h3⟩, rfl, rfl⟩
    exact ⟨⟨h1, P1.pre (Rch.one e) h5⟩, h3, h1.trans (P1.one e), h5⟩
theorem cmp_inc (hA : AuV a k) (hP : PathM a k S M) (hr : r < a.next.length) (hi : i < a.next.length) (hx : x < k) (hc : cmpW a S M r i x = true) :
    InC (tgN a.next) (SetB a.next.length k S) (i, x) = SetB a.next.length k (cmpW a S M r) := by
  obtain ⟨h1, h2, h3⟩ := (cmp_iff hA hP hr hi hx).1 hc
  have e : EdS (tgN a.next) (SetB a.next.length k S) i (nxI a i x) := ⟨(i, x), ⟨hi, hx, h1⟩, rfl, rfl⟩
  have h4 : P1 (EdS (tgN a.next) (SetB a.next.length k S)) i r := P1.pre (Rch.one e) h3
  refine funext fun m' => propext ⟨fun h => ?_, fun h => ?_⟩
  · obtain ⟨⟨q1, q2, q3⟩, p1, p2⟩ := h
    exact ⟨q1, q2, (cmp_iff hA hP hr q1 q2).2 ⟨q3, h2.post p1, P1.pre p2 h4⟩⟩
  · obtain ⟨q1, q2, q3⟩ := h
    obtain ⟨g1, g2, g3⟩ := (cmp_iff hA hP hr q1 q2).1 q3
    exact ⟨⟨q1, q2, g1⟩, h4.rch.trans g2.rch, g3.rch.trans h2.rch⟩
theorem cmp_on (hA : AuV a k) (hP : PathM a k S M) (hr : r < a.next.length) (hi : i < a.next.length) (hx : x < k) (hc : cmpW a S M r i x = true) :
    OnC (tgN a.next) (SetB a.next.length k S) (i, x) := by
  obtain ⟨h1, h2, h3⟩ := (cmp_iff hA hP hr hi hx).1 hc
  exact ⟨⟨hi, hx, h1⟩, h3.rch.trans h2.rch⟩
theorem on_cmp (hA : AuV a k) (hP : PathM a k S M) (hR : RepW a.next.length M rs a.next.length) (h : OnC (tgN a.next) (SetB a.next.length k S) (i, x)) : ∃ r ∈ rs, cmpW a S M r i x = true := by
  obtain ⟨⟨hi, hx, hs⟩, hc⟩ := h
  have hi : i < a.next.length := hi
  have hx : x < k := hx
  have e : EdS (tgN a.next) (SetB a.next.length k S) i (nxI a i x) := ⟨(i, x), ⟨hi, hx, hs⟩, rfl, rfl⟩
  have hc : Rch (EdS (tgN a.next) (SetB a.next.length k S)) (nxI a i x) i := hc
  have hd := hR.cov i hi ((hP i i hi hi).2 ⟨_, e, hc⟩)
  unfold doneW at hd
  rw [List.any_eq_true] at hd
  obtain ⟨r, hr, h1⟩ := hd
  have hrn := (hR.lt r hr).1
  simp only [conW, Bool.and_eq_true, hP r i hrn hi, hP i r hi hrn] at h1
  exact ⟨r, hr, (cmp_iff hA hP hrn hi hx).2 ⟨hs, h1.1, P1.pre hc h1.2⟩⟩
/-- A part has a move. -/
theorem cmp_ex (hA : AuV a k) (hP : PathM a k S M) (hR : RepW a.next.length M rs a.next.length) (hr : r ∈ rs) : ∃ x, x < k ∧ cmpW a S M r r x = true := by
  obtain ⟨hrn, hw⟩ := hR.lt r hr
  have h := (hP r r hrn hrn).1 hw
  have hh := h
  obtain ⟨u, ⟨⟨i, x⟩, ⟨h1, h2, h3⟩, h4, h5⟩, h6⟩ := hh
  have h4 : i = r := h4
  subst h4
  have h5 : nxI a i x = u := h5
  subst h5
  exact ⟨x, h2, (cmp_iff hA hP hrn hrn h2).2 ⟨h3, h, P1.pre h6 h⟩⟩
/-- The least priority of a matrix. -/
def LeastM (a : Au) (k : Nat) (F : Nat → Nat → Bool) (K : Int) : Prop := (∃ i x, i < a.next.length ∧ x < k ∧ F i x = true ∧ prA a (i, x) = K) ∧ ∀ i x, i < a.next.length → x < k → F i x = true → K ≤ prA a (i, x)
theorem LeastM.c {K : Int} (hA : AuV a k) (hP : PathM a k S M) (hr : r < a.next.length) (hi : i < a.next.length) (hx : x < k) (hc : cmpW a S M r i x = true) (h : LeastM a k (cmpW a S M r) K) : LeastC (tgN a.next) (prA a) (SetB a.next.length k S) (i, x) K := by
  unfold LeastC
  rw [cmp_inc hA hP hr hi hx hc]
  obtain ⟨⟨i', x', q1, q2, q3, q4⟩, h2⟩ := h
  exact ⟨⟨(i', x'), ⟨q1, q2, q3⟩, q4⟩, fun m' hm => h2 m'.1 m'.2 hm.1 hm.2.1 hm.2.2⟩
/-- What is left above the least one. -/
def restM (a : Au) (F : Nat → Nat → Bool) (K : Int) (i x : Nat) : Bool := F i x && decide (K < prA a (i, x))
theorem rest_set {K : Int} (hA : AuV a k) (hP : PathM a k S M) (hr : r < a.next.length) (hi : i < a.next.length) (hx : x < k) (hc : cmpW a S M r i x = true) :
    RestC (tgN a.next) (prA a) (SetB a.next.length k S) (i, x) K = SetB a.next.length k (restM a (cmpW a S M r) K) := by
  refine set_ext fun m' => ?_
  unfold RestC
  rw [cmp_inc hA hP hr hi hx hc]
  unfold SetB restM
  simp only [Bool.and_eq_true, decide_eq_true_eq]
  exact ⟨fun h => ⟨h.1.1, h.1.2.1, h.1.2.2, h.2⟩, fun h => ⟨⟨h.1, h.2.1, h.2.2.1⟩, h.2.2.2⟩⟩
theorem rest_cnt {K : Int} {l : List Mv} (hl : ∀ m : Mv, m.1 < a.next.length → m.2 < k → m ∈ l) (h : LeastM a k (cmpW a S M r) K) : cntM l (SetB a.next.length k (restM a (cmpW a S M r) K)) < cntM l (SetB a.next.length k S) := by
  obtain ⟨⟨i, x, q1, q2, q3, q4⟩, -⟩ := h
  refine cntM_lt (x := (i, x)) (fun m hm => ?_) (hl _ q1 q2) ⟨q1, q2, cmpW_S q3⟩ fun hm => ?_
  · obtain ⟨h1, h2, h3⟩ := hm
    unfold restM at h3
    rw [Bool.and_eq_true] at h3
    exact ⟨h1, h2, cmpW_S h3.1⟩
  · obtain ⟨h1, h2, h3⟩ := hm
    unfold restM at h3
    rw [Bool.and_eq_true, decide_eq_true_eq] at h3
    have h4 : K < prA a (i, x) := h3.2
    omega
/-- The new priorities, when the parts of dn are done. -/
def LowP (a : Au) (k : Nat) (S M : Nat → Nat → Bool) (b : Int) (P : Nat → Nat → Int) (dn : List Nat) (P' : Nat → Nat → Int) : Prop :=
  ∀ i x, i < a.next.length → x < k → (S i x = false → P' i x = P i x) ∧ (S i x = true → ((∃ r ∈ dn, cmpW a S M r i x = true) → Val (tgN a.next) (prA a) (SetB a.next.length k S) b (i, x) (P' i x)) ∧ ((∀ r ∈ dn, cmpW a S M r i x = false) → P' i x = b))
/-- What lower does. -/
def LowD (a : Au) (k : Nat) (S : Nat → Nat → Bool) (b : Int) (P P' : Nat → Nat → Int) : Prop :=
  ∀ i x, i < a.next.length → x < k → (S i x = false → P' i x = P i x) ∧ (S i x = true → Val (tgN a.next) (prA a) (SetB a.next.length k S) b (i, x) (P' i x))
/-- The moves of the least priority get the value. -/
def putM (a : Au) (F : Nat → Nat → Bool) (K v : Int) (P : Nat → Nat → Int) (i x : Nat) : Int := if F i x = true ∧ prA a (i, x) = K then v else P i x
theorem LowP.start (b : Int) (P : Nat → Nat → Int) : LowP a k S M b P [] (fun i x => if S i x = true then b else P i x) := fun i x _ _ => by
  refine ⟨fun h => by simp [h], fun h => ⟨fun ⟨r, hr, _⟩ => absurd hr (by simp), fun _ => by simp [h]⟩⟩
theorem LowP.part {b K : Int} {P P1 P3 : Nat → Nat → Int} {dn : List Nat} (hA : AuV a k) (hP : PathM a k S M) (hr : r < a.next.length) (h : LowP a k S M b P dn P1) (hK : LeastM a k (cmpW a S M r) K)
    (h3 : LowD a k (restM a (cmpW a S M r) K) (qB b K) (putM a (cmpW a S M r) K (qB b K) P1) P3) : LowP a k S M b P (dn ++ [r]) P3 := fun i x hi hx => by
  obtain ⟨g1, g2⟩ := h i x hi hx
  obtain ⟨f1, f2⟩ := h3 i x hi hx
  cases hc : cmpW a S M r i x with
  | false =>
    have e : P3 i x = P1 i x := by rw [f1 (by simp [restM, hc])]; simp [putM, hc]
    rw [e]
    refine ⟨g1, fun hs => ⟨fun ⟨r', hr', h'⟩ => (g2 hs).1 ?_, fun hall => (g2 hs).2 fun r' hr' => hall r' (List.mem_append_left _ hr')⟩⟩
    rcases List.mem_append.1 hr' with q | q
    · exact ⟨r', q, h'⟩
    · rw [List.mem_singleton.1 q, hc] at h'; cases h'
  | true =>
    have hs := cmpW_S hc
    refine ⟨fun e => (by rw [hs] at e; cases e), fun _ => ⟨fun _ => ?_, fun hall => (by have := hall r (by simp); rw [hc] at this; cases this)⟩⟩
    have hL := hK.c hA hP hr hi hx hc
    have hO := cmp_on hA hP hr hi hx hc
    have hge := hK.2 i x hi hx hc
    by_cases e : prA a (i, x) = K
    · have e3 : P3 i x = qB b (prA a (i, x)) := by
        rw [f1 (by simp [restM, e])]
        unfold putM
        rw [if_pos ⟨hc, e⟩, e]
      rw [e3]
      exact Val.least hO (by rw [e]; exact hL)
    · have hlt : K < prA a (i, x) := by omega
      have hv := f2 (by simp [restM, hc, hlt])
      rw [← rest_set hA hP hr hi hx hc] at hv
      exact Val.rest hO hL hlt hv
theorem LowP.done {b : Int} {P P1 : Nat → Nat → Int} (hA : AuV a k) (hP : PathM a k S M) (hR : RepW a.next.length M rs a.next.length) (h : LowP a k S M b P rs P1) : LowD a k S b P P1 := fun i x hi hx => by
  obtain ⟨g1, g2⟩ := h i x hi hx
  refine ⟨g1, fun hs => ?_⟩
  by_cases ho : OnC (tgN a.next) (SetB a.next.length k S) (i, x)
  · exact (g2 hs).1 (on_cmp hA hP hR ho)
  · rw [(g2 hs).2 fun r hr => by
      cases hc : cmpW a S M r i x with
      | false => rfl
      | true => exact absurd (cmp_on hA hP (hR.lt r hr).1 hi hx hc) ho]
    exact Val.out ⟨hi, hx, hs⟩ ho
end

end Go.Proofs.Ytdkpdpcecjcmcaa
