/- The game and the places that Build hands back, as they read. -/
import Derived.Test.YtjadeffdcbchnaaDoorAr16
namespace Go.Proofs.YtjadeffdcbchnaaDoor
open Go.RowKit Go.Shelf Go.Maps Go.WideMaps

theorem maxR_bd {m c : Int} {row : List Int} (h0 : 0 ≤ m) (h1 : m ≤ c) (h : ∀ x ∈ row, x ≤ c) : 0 ≤ maxR m row ∧ maxR m row ≤ c := by
  induction row generalizing m with
  | nil => exact ⟨h0, h1⟩
  | cons x r ih =>
    have := h x (by simp)
    exact ih (m := max m x) (by omega) (by omega) fun y hy => h y (List.mem_cons_of_mem _ hy)
theorem foldR_bd {m c : Int} {rows : List (List Int)} (h0 : 0 ≤ m) (h1 : m ≤ c) (h : ∀ r ∈ rows, ∀ x ∈ r, x ≤ c) : 0 ≤ rows.foldl maxR m ∧ rows.foldl maxR m ≤ c := by
  induction rows generalizing m with
  | nil => exact ⟨h0, h1⟩
  | cons r rs ih =>
    have := maxR_bd h0 h1 (h r (by simp))
    exact ih this.1 this.2 fun r hr => h r (List.mem_cons_of_mem _ hr)
theorem topA_bd {a : Au} (hv : validA a = true) : 0 ≤ topA a ∧ topA a ≤ 20000 := by
  refine foldR_bd (by omega) (by omega) fun r hr x hx => ?_
  obtain ⟨s, hs, rfl⟩ := List.mem_iff_getElem.1 hr
  have hv' := hv
  simp only [validA, Bool.and_eq_true, decide_eq_true_eq] at hv'
  have hs' : s < a.next.length := by have := hv'.1; omega
  obtain ⟨h1, h2, -⟩ := validA_row hv hs'
  obtain ⟨k, hk, rfl⟩ := List.mem_iff_getElem.1 hx
  have h3 := (validA_pr hv hs' k (by rw [getD_lt _ _ _ hs] at h2; omega)).2
  rwa [getD_lt _ _ _ hs, getD_lt _ _ _ hk] at h3

theorem start_ok {a : Au} {T : List (List Int)} (hv : validA a = true) (hA : AuOK a T) : (PlOK a T ⟨a.start, -1, topA a⟩ ∧ PlW ⟨a.start, -1, topA a⟩) ∧ WfP ⟨a.start, -1, topA a⟩ := by
  have ht := topA_bd hv
  have hT := hA.t
  have hv' := hv
  simp only [validA, Bool.and_eq_true, decide_eq_true_eq] at hv'
  have h1 : PlOK a T ⟨a.start, -1, topA a⟩ := hA.pl' ⟨hv'.1.2.1, hv'.1.2.2⟩ (by show (-1 : Int) < _; omega)
  have h2 : PlW ⟨a.start, -1, topA a⟩ := ⟨by show (-1 : Int) ≤ -1; omega, by show -1 ≤ topA a; omega, ht.2⟩
  exact ⟨⟨h1, h2⟩, wfP hv hT.2 h1 h2⟩

/-- A list of places as a slice. -/
structure PArr (w : World) (ao : Option Addr) (cap b off : Nat) (l : List Pl) : Prop where
  lc : l.length ≤ cap
  cm : cap ≤ maxLen
  nm : l.length ≤ maxN
  nc : ao = none → cap = 0
  ad : 0 < l.length → ao = some ⟨b, off, none⟩
  e0 : ∀ j (hj : j < l.length), w.cell? ⟨b, off + j * 3, none⟩ = some (.int .i64 l[j].st)
  e1 : ∀ j (hj : j < l.length), w.cell? ⟨b, off + j * 3 + 1, none⟩ = some (.int .i64 l[j].inn)
  e2 : ∀ j (hj : j < l.length), w.cell? ⟨b, off + j * 3 + 2, none⟩ = some (.int .i64 l[j].pr)
def IsPls (w : World) (v : Value) (l : List Pl) : Prop := ∃ ao cap b off, v = .slice ao l.length cap ∧ PArr w ao cap b off l ∧ ∀ y ∈ l, WfP y
theorem IsPls.below {w wr : World} {v : Value} {l : List Pl} (h : IsPls w v l) (hb : Below w.heap.size w wr) : IsPls wr v l := by
  obtain ⟨ao, cap, b, off, rfl, h1, h2⟩ := h
  exact ⟨ao, cap, b, off, rfl, { h1 with e0 := fun j hj => cellB hb (h1.e0 j hj), e1 := fun j hj => cellB hb (h1.e1 j hj), e2 := fun j hj => cellB hb (h1.e2 j hj) }, h2⟩
theorem OP.is {w : World} {base : Nat} {v : Value} {l : List Pl} (h : OP w base v l) (hn : l.length ≤ maxN) (hw : ∀ y ∈ l, WfP y) : IsPls w v l := by
  rcases h.2 with ⟨hv, h0⟩ | ⟨g, cap, cur, hv, hb, hg, hnc, hcm, hcs, htake⟩
  · have : l = [] := List.eq_nil_of_length_eq_zero h0
    subst this
    rw [hv]
    exact ⟨none, 0, 0, 0, rfl, ⟨Nat.le_refl _, Nat.zero_le _, Nat.zero_le _, fun _ => rfl, fun h => absurd h (by simp), fun j h => absurd h (by simp), fun j h => absurd h (by simp), fun j h => absurd h (by simp)⟩, hw⟩
  · subst hv
    have hc := fun j hj => OP.at' h rfl j hj
    refine ⟨some ⟨g, 0, none⟩, cap, g, 0, rfl, ⟨hnc, hcm, hn, (fun e => by cases e), fun _ => rfl, fun j hj => ?_, fun j hj => ?_, fun j hj => ?_⟩, hw⟩
    · rw [Nat.zero_add]; exact (hc j hj).1
    · rw [Nat.zero_add]; exact (hc j hj).2.1
    · rw [Nat.zero_add]; exact (hc j hj).2.2
theorem IsPls_nil (w : World) : IsPls w (.slice none 0 0) [] := ⟨none, 0, 0, 0, rfl, ⟨Nat.le_refl _, Nat.zero_le _, Nat.zero_le _, fun _ => rfl, fun h => absurd h (by simp), fun j h => absurd h (by simp), fun j h => absurd h (by simp), fun j h => absurd h (by simp)⟩, by simp⟩

/-- What was made reads the same where cells alone are kept. -/
theorem BO.cells {w w' : World} {B z zp zm zn : Nat} {v0 v1 v2 vp : Value} {vals : List Value} {gm : Gm} {pls : List Pl} (h : BO w B z zp zm zn v0 v1 v2 vp vals gm pls) (hs : w.heap.size ≤ w'.heap.size)
    (hc : ∀ (k : Nat) (o : Obj), w.heap[k]? = some o → o.isCells = true → w'.heap[k]? = some o) : GB w' B z v0 v1 v2 vals gm [vp, boxV zp, boxV zm, boxV zn] ∧ OP w' B vp pls := by
  have hw : ∀ {base e size n v xs}, w.ownsRow base e size n v xs → ∀ k, n.ownBlock = some k → w'.heap[k]? = w.heap[k]? := fun {base e size n v xs} h k hk => by
    obtain ⟨o, h1, h2⟩ := ownsRow_cells h hk
    rw [h1]; exact hc k o h1 h2
  refine ⟨h.g.blk hs fun u hu k hk => ?_, ownsRow_blk h.p (hw h.p)⟩
  simp only [List.mem_cons] at hu
  rcases hu with rfl | rfl | rfl | rfl | hu
  · cases hk; rw [h.g.box]; exact hc _ _ h.g.box rfl
  · exact hw h.g.o k hk
  · exact hw h.g.p k hk
  · exact hw h.g.r k hk
  · obtain ⟨j, hj, rfl⟩ := List.getElem_of_mem hu
    have := h.g.e j (by rw [← h.g.vl]; exact hj)
    rw [getD_lt _ _ _ hj] at this
    exact hw this k hk

theorem plGm_len (S : Pl → List Pl) (top : Int) (l : List Pl) : (plGm S top l l.length).owner.length = l.length ∧ (plGm S top l l.length).prio.length = l.length ∧ (plGm S top l l.length).succ.length = l.length := by simp [plGm]
theorem plGm_is {w : World} {B z : Nat} {v0 v1 v2 : Value} {vals others : List Value} {a : Au} {T : List (List Int)} {pls : List Pl} (hv : validA a = true) (hA : AuOK a T) (hn : pls.length ≤ 3000) (hok : ∀ y ∈ pls, PlOK a T y ∧ PlW y)
    (h : GB w B z v0 v1 v2 vals (plGm (succPl a T) (topA a) pls pls.length) others) : IsGame w (.agg #[v0, v1, v2]) (plGm (succPl a T) (topA a) pls pls.length) := by
  obtain ⟨h1, h2, h3⟩ := plGm_len (succPl a T) (topA a) pls
  have ht := topA_bd hv
  have hm : pls.length ≤ maxN := by simp only [maxN]; omega
  refine h.is ⟨by rw [h1]; exact hm, fun x hx => ?_⟩ ⟨by rw [h2]; exact hm, fun x hx => ?_⟩ (by rw [h3]; exact hm) fun j hj => ?_
  · simp only [plGm, List.take_length] at hx
    obtain ⟨y, hy, rfl⟩ := List.mem_map.1 hx
    unfold plOwn I64; split <;> omega
  · simp only [plGm, List.take_length] at hx
    obtain ⟨y, hy, rfl⟩ := List.mem_map.1 hx
    have := (hok y hy).2
    unfold plPri I64; unfold PlW at this; split <;> omega
  · rw [h3] at hj
    have e : (plGm (succPl a T) (topA a) pls pls.length).succ.getD j [] = numsP pls (succPl a T pls[j]) := by simp [plGm, List.getD, hj]
    rw [e]
    have hT := hA.t
    refine ⟨?_, fun x hx => ?_⟩
    · have hl : (succPl a T pls[j]).length ≤ 64 := by
        unfold succPl
        split
        · simpa using hT.2
        · rw [List.length_map]
          exact hA.len _ (by have := (hok pls[j] (List.getElem_mem hj)).1.inn; omega)
      simp only [numsP, List.length_map, maxN]; omega
    · obtain ⟨y, hy, rfl⟩ := List.mem_map.1 hx
      have := List.idxOf_le_length (a := y) (l := pls)
      unfold I64; omega

end Go.Proofs.YtjadeffdcbchnaaDoor
