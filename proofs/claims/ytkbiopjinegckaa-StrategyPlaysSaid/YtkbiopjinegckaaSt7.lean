/- What newGraph makes: the graph of a strategy on a set, and the positions of the set. -/
import Derived.Test.YtkbiopjinegckaaSt4
import Derived.Test.YtkbiopjinegckaaStCb
namespace Go.Proofs.Ytkbiopjinegckaa
open Go.RowKit

/-- The moves from a position. -/
def rowS (g : Gm) (p : Int) (set : List Bool) (s : List Int) (v : Nat) : List Int :=
  if set.getD v false then (if g.owner.getD v 0 = p then [s.getD v 0] else g.succ.getD v []) else []
def rowsK (f : Nat → List Int) (n k : Nat) : List (List Int) := (List.range n).map fun v => if v < k then f v else []
def allK (set : List Bool) (k : Nat) : List Int := ((List.range k).filter fun v => set.getD v false).map Int.ofNat

theorem rowsK_get (f : Nat → List Int) {n k j : Nat} (hj : j < n) : (rowsK f n k).getD j [] = if j < k then f j else [] := by simp [rowsK, List.getD, hj]
theorem rowsK_len (f : Nat → List Int) (n k : Nat) : (rowsK f n k).length = n := by simp [rowsK]
theorem rowsK_set (f : Nat → List Int) (n k : Nat) : (rowsK f n k).set k (f k) = rowsK f n (k + 1) := by
  apply List.ext_getElem (by simp [rowsK])
  intro j h1 h2
  have hj : j < n := by simpa [rowsK] using h2
  by_cases h : k = j
  · subst h; simp [rowsK]
  · rw [List.getElem_set_ne h]
    simp only [rowsK, List.getElem_map, List.getElem_range]
    by_cases hjk : j < k
    · rw [if_pos hjk, if_pos (by omega)]
    · rw [if_neg hjk, if_neg (by omega)]
theorem rowsK_skip (f : Nat → List Int) (n k : Nat) (h : f k = []) : rowsK f n (k + 1) = rowsK f n k := by
  apply List.ext_getElem (by simp [rowsK])
  intro j h1 h2
  simp only [rowsK, List.getElem_map, List.getElem_range]
  by_cases hj : j = k
  · subst hj; rw [if_pos (by omega), if_neg (by omega), h]
  · by_cases hjk : j < k
    · rw [if_pos (by omega), if_pos hjk]
    · rw [if_neg (by omega), if_neg hjk]
theorem rowsK_nil (f : Nat → List Int) (n : Nat) : rowsK f n 0 = List.replicate n [] := by
  apply List.ext_getElem (by simp [rowsK])
  intro j h1 h2
  simp [rowsK]
theorem allK_in {set : List Bool} {k : Nat} (h : set.getD k false = true) : allK set (k + 1) = allK set k ++ [(k : Int)] := by
  unfold allK
  rw [List.range_succ, List.filter_append, List.filter_cons, h]
  simp
theorem allK_out {set : List Bool} {k : Nat} (h : set.getD k false = false) : allK set (k + 1) = allK set k := by
  unfold allK
  rw [List.range_succ, List.filter_append, List.filter_cons, h]
  simp
theorem allK_len (set : List Bool) (k : Nat) : (allK set k).length ≤ k := by
  unfold allK
  rw [List.length_map]
  have := List.length_filter_le (fun v => set.getD v false) (List.range k)
  simpa using this
theorem allK_mem {set : List Bool} {k : Nat} {x : Int} : x ∈ allK set k ↔ ∃ v : Nat, x = v ∧ v < k ∧ set.getD v false = true := by
  unfold allK
  simp only [List.mem_map, List.mem_filter, List.mem_range]
  constructor
  · rintro ⟨v, ⟨h1, h2⟩, rfl⟩; exact ⟨v, rfl, h1, h2⟩
  · rintro ⟨v, rfl, h1, h2⟩; exact ⟨v, ⟨h1, h2⟩, rfl⟩
theorem allK_i64 {set : List Bool} {k : Nat} (hk : k ≤ 100000) : ∀ x ∈ allK set k, I64 x := fun x hx => by
  obtain ⟨v, rfl, h, -⟩ := allK_mem.1 hx
  unfold I64; omega

theorem Only.of_below {S : Nat → Prop} {w w' : World} (h : Below w.heap.size w w') : Only S w w' := ⟨h.os, h.tape, h.output, h.size, fun k hk _ => h.block k hk⟩
theorem Only.to_below {S : Nat → Prop} {a w w' : World} (hb : Below a.heap.size a w) (h : Only S w w') (hS : ∀ k, S k → a.heap.size ≤ k) : Below a.heap.size a w' := hb.trans (h.below _ hS hb.size)

/-- The slice of one number in a block of its own. -/
theorem IsInts.box1 {W : World} {h : Nat} {x : Int} (hh : W.heap[h]? = some (.cells #[.int .i64 x] 3 (0, 0))) (hx : I64 x) : IsInts W (.slice (some ⟨h, 0, none⟩) 1 1) [x] := by
  refine ⟨⟨_, _, h, 0, rfl, Nat.le_refl _, by simp [maxLen], by simp [maxN], (fun h => by cases h), fun _ => rfl, fun j hj => ?_⟩, fun y hy => by rw [List.mem_singleton.1 hy]; exact hx⟩
  obtain rfl : j = 0 := by simpa using hj
  exact cell_of_row _ _ 0 _ _ _ hh

/-- What the loop of newGraph writes to. -/
def HotN (nb ob : Nat) (va : Value) (B k : Nat) : Prop := k = nb ∨ va.ownBlock = some k ∨ B ≤ k ∨ k = ob
/-- What the loop of newGraph has made. -/
structure NG (W : World) (B nb ob n : Nat) (va : Value) (vals : List Value) (al : List Int) (nx : List (List Int)) : Prop where
  a : OI W B va al
  o : W.ownsRow 0 22 1 (.slice (some ⟨nb, 0, none⟩) n n) n vals
  e : ∀ j, j < n → ∀ W', Only (HotN nb ob va W.heap.size) W W' → IsInts W' (vals.getD j undef) (nx.getD j [])
  lx : nx.length = n
  lt : nb < B
theorem NG.lv {W : World} {B nb ob n : Nat} {va : Value} {vals : List Value} {al : List Int} {nx : List (List Int)} (h : NG W B nb ob n va vals al nx) : vals.length = n := by
  have := h.o.1
  simpa using this
theorem NG.cell {W : World} {B nb ob n : Nat} {va : Value} {vals : List Value} {al : List Int} {nx : List (List Int)} (h : NG W B nb ob n va vals al nx) {j : Nat} (hj : j < n) : W.cell? ⟨nb, j, none⟩ = some (vals.getD j undef) := by
  rw [World.ownsRow.cellAt h.o j (by omega), List.getD]
  have : j < vals.length := by rw [h.lv]; exact hj
  simp [this]
theorem NG.fz {W : World} {B nb ob n : Nat} {va : Value} {vals : List Value} {al : List Int} {nx : List (List Int)} (h : NG W B nb ob n va vals al nx) (j : Nat) : W.frozen? ⟨nb, j, none⟩ = false := World.ownsRow.frozenAt h.o j
theorem NG.app {W W1 : World} {B nb ob n : Nat} {va va1 : Value} {vals : List Value} {al : List Int} {nx : List (List Int)} {x : Int} (h : NG W B nb ob n va vals al nx) (h1 : OI W1 B va1 (al ++ [x])) (hg : W.grownBy W1 va.ownBlock) (hm : Moved W va va1) : NG W1 B nb ob n va1 vals (al ++ [x]) nx := by
  have hne : ∀ k, va.ownBlock = some k → k ≠ nb := fun k hk e => by have := h.a.ge k hk; have := h.lt; omega
  refine ⟨h1, World.ownsRow.kept h.o hg (.inr fun e => hne nb e.symm rfl), fun j hj W' hW => h.e j hj W' ?_, h.lx, h.lt⟩
  refine ((Only.of_grown hg).mono fun k _ hk => .inr (.inl hk)).trans (hW.mono fun k _ hk => ?_)
  rcases hk with hk | hk | hk | hk
  · exact .inl hk
  · rcases hm k hk with e | e
    · exact .inr (.inl e)
    · exact .inr (.inr (.inl e))
  · exact .inr (.inr (.inl (Nat.le_trans hg.size hk)))
  · exact .inr (.inr (.inr hk))
theorem NG.below {W W1 : World} {B nb ob n : Nat} {va : Value} {vals : List Value} {al : List Int} {nx : List (List Int)} (h : NG W B nb ob n va vals al nx) (hb : Below W.heap.size W W1) : NG W1 B nb ob n va vals al nx := by
  refine ⟨h.a.below hb, World.ownsRow.kept h.o (below_grown hb) (.inr (by simp [Value.ownBlock])), fun j hj W' hW => h.e j hj W' ((Only.of_below hb).trans (hW.mono fun k _ hk => ?_)), h.lx, h.lt⟩
  rcases hk with hk | hk | hk | hk
  · exact .inl hk
  · exact .inr (.inl hk)
  · exact .inr (.inr (.inl (Nat.le_trans hb.size hk)))
  · exact .inr (.inr (.inr hk))
theorem NG.put {W : World} {B nb ob n : Nat} {va : Value} {vals : List Value} {al : List Int} {nx : List (List Int)} (h : NG W B nb ob n va vals al nx) {k : Nat} (hk : k < n) {u : Value} {r : List Int}
    (hu : ∀ W', Only (HotN nb ob va W.heap.size) W W' → IsInts W' u r) : NG (W.setCell ⟨nb, k, none⟩ u) B nb ob n va (vals.set k u) al (nx.set k r) := by
  have hs : Only (HotN nb ob va W.heap.size) W (W.setCell ⟨nb, k, none⟩ u) := Only.set nb k u (.inl rfl)
  have hs1 : Only (fun k => k = nb) W (W.setCell ⟨nb, k, none⟩ u) := Only.set nb k u rfl
  refine ⟨h.a.only hs1 fun b hb hk => ?_, (World.ownsRow.stored h.o k u).1, fun j hj W' hW => ?_, by simp [h.lx], h.lt⟩
  · have h1 := h.a.ge b hb
    have h3 := h.lt
    omega
  · have hW2 := hs.trans (hW.mono fun k _ hk => by simpa [HotN] using hk)
    by_cases e : k = j
    · subst e
      rw [getD_set_eq _ _ _ _ (by rw [h.lv]; exact hk), getD_set_eq _ _ _ _ (by rw [h.lx]; exact hk)]
      exact hu W' hW2
    · rw [getD_set_ne _ _ _ _ _ e, getD_set_ne _ _ _ _ _ e]
      exact h.e j hj W' hW2

/-- Behind the makes of newGraph. -/
structure NG0 (w W : World) (n gb nb ob : Nat) (cs : Array Value) (vp : Value) : Prop where
  bx : Boxed w W cs
  hg : W.heap[gb]? = some (.cells #[vp, .slice (some ⟨nb, 0, none⟩) n n, .slice (some ⟨ob, 0, none⟩) n n] 72 (0, 0))
  hn : W.heap[nb]? = some (.cells (madeCells #[.slice none 0 0] n) 22 (0, 0))
  ho : W.heap[ob]? = some (.cells (madeCells #[.bool false] n) 4 (0, 0))
  gt : w.heap.size < gb ∧ w.heap.size < nb ∧ w.heap.size < ob

theorem OB_made {w : World} {B g n : Nat} (h : w.heap[g]? = some (.cells (madeCells #[.bool false] n) 4 (0, 0))) (hb : B ≤ g) (hn : n ≤ 3000) : OB w B (.slice (some ⟨g, 0, none⟩) n n) (List.replicate n false) := by
  refine ⟨by simp, .inr ⟨g, n, _, ?_, hb, h, ?_, by simp only [maxLen]; omega, by simp [size_madeCells], ?_⟩⟩
  · simp
  · simp
  · rw [toList_madeCells_one]; simp

/-- What stays throughout the loop of newGraph. -/
structure NGb (w W : World) (n gb nb ob : Nat) (cs : Array Value) (vp : Value) : Prop where
  bx : Boxed w W cs
  hg : W.heap[gb]? = some (.cells #[vp, .slice (some ⟨nb, 0, none⟩) n n, .slice (some ⟨ob, 0, none⟩) n n] 72 (0, 0))
  ho : OB W 0 (.slice (some ⟨ob, 0, none⟩) n n) (List.replicate n false)
theorem NGb.only {w W W1 : World} {n gb nb ob : Nat} {cs : Array Value} {vp : Value} {S : Nat → Prop} (h : NGb w W n gb nb ob cs vp) (ho : Only S W W1) (hS : ∀ k, S k → k ≠ gb ∧ k ≠ ob ∧ w.heap.size < k) : NGb w W1 n gb nb ob cs vp :=
  ⟨h.bx.only ho fun k hk => (hS k hk).2.2, (ho.block gb (Array.getElem?_eq_some_iff.1 h.hg).1 fun k => (hS _ k).1 rfl).trans h.hg, h.ho.only ho fun k hk hs => by
    have e : ob = k := by simpa [Value.ownBlock] using hk
    exact (hS k hs).2.1 e.symm⟩

/-- The graph in memory, but for the open positions. -/
def GrC (W : World) (gb nb ob n : Nat) (V : Nat → Value) (vp : Value) (prio : List Int) (nx : List (List Int)) : Prop :=
  W.heap[gb]? = some (.cells #[vp, .slice (some ⟨nb, 0, none⟩) n n, .slice (some ⟨ob, 0, none⟩) n n] 72 (0, 0)) ∧ IsInts W vp prio ∧ ∀ j, j < n → W.cell? ⟨nb, j, none⟩ = some (V j) ∧ IsInts W (V j) (nx.getD j [])

def GrOut (w : World) (n : Nat) (vp : Value) (prio al : List Int) (nx : List (List Int)) (e : Ending) (w' : World) : Prop :=
  ∃ (gb nb ob : Nat) (V : Nat → Value) (va : Value), e = .returned (.tuple #[.pointer (some ⟨gb, 0, none⟩), va]) ∧ OB w' 0 (.slice (some ⟨ob, 0, none⟩) n n) (List.replicate n false) ∧ Below w.heap.size w w' ∧ w.heap.size ≤ ob ∧
    ∀ W', Only (fun k => k = ob ∨ w'.heap.size ≤ k) w' W' → GrC W' gb nb ob n V vp prio nx ∧ IsInts W' va al

set_option maxRecDepth 100000 in
set_option maxHeartbeats 8000000 in
theorem newGraph_c (w : World) (v0 v1 v2 vs vt : Value) (g : Gm) (p : Int) (set : List Bool) (s : List Int) (hg : IsGame w (.agg #[v0, v1, v2]) g) (hs : IsBools w vs set) (ht : IsInts w vt s) (hv : stB g p set s = true) :
    Calls Try.prog 36 #[.agg #[v0, v1, v2], .int .i64 p, vs, vt] w (GrOut w set.length v1 g.prio (allK set set.length) (rowsK (rowS g p set s) set.length set.length)) := by
  have hst := hv
  simp only [stB, Bool.and_eq_true, decide_eq_true_eq] at hst
  obtain ⟨⟨⟨⟨hp, hvg⟩, l1⟩, l2⟩, hkp⟩ := hst
  obtain ⟨lo, lp, ls⟩ := valid_lens hvg
  obtain ⟨u0, u1, u2, hu, i0, i1, i2⟩ := id hg
  obtain ⟨rfl, rfl, rfl⟩ : v0 = u0 ∧ v1 = u1 ∧ v2 = u2 := by simpa using hu
  clear hu
  have HP1 := Lib.hid i1
  have HT := Lib.hid ht
  obtain ⟨a0, c0, rfl⟩ := i0.shape
  obtain ⟨a1, c1, rfl⟩ := i1.shape
  obtain ⟨a2, c2, b2, o2, V, rfl, hd2, m2, dd2⟩ := i2.data
  obtain ⟨b0, o0, hd0, m0, dd0⟩ := i0.data
  obtain ⟨aS, cS, rfl⟩ := hs.shape
  obtain ⟨aT, cT, rfl⟩ := ht.shape
  obtain ⟨bS, oS, hdS, mS, ddS⟩ := hs.data
  obtain ⟨bT, oT, hdT, mT, ddT⟩ := ht.data
  clear i0 i1 i2 hs ht hg hkp hvg hp hv mS mT m0 m2
  obtain ⟨n, hn⟩ : ∃ n, n = set.length := ⟨_, rfl⟩
  rw [← hn] at l1 hdS ddS
  rw [← l1] at hd0 dd0 lo lp ls l2
  rw [ls] at hd2 dd2
  rw [l2] at hdT ddT
  have HLP : Hid (g.prio.length = n) := lp
  rw [← hn, ls, lp, l2, ← l1]
  have HN := Lib.hid hn
  have hn3 : n ≤ 3000 := lo
  have HX64 : Hid (∀ x ∈ s, I64 x) := HT.out.2
  have HL2 : Hid (s.length = n) := l2
  clear l1 lp ls l2 lo hn
  have mkb := fun wx => run_make_row' (P := Try.prog) 26 4 (.bool false) 1 Try.underlying26 info_bool rfl .i64 .i64 n (by omega) (by omega) wx
  have mkr := fun wx => run_make_row' (P := Try.prog) 23 22 (.slice none 0 0) 24 Try.underlying23 info_ints rfl .i64 .i64 n (by omega) (by omega) wx
  go_enter Try.func36, Try.ntmps36
  go_upto_region 1 with (fail)
  go_cut [10] (fun s10 wx => ∃ gb nb ob, s10 = .pointer (some ⟨gb, 0, none⟩) ∧ Hid (NG0 w wx n gb nb ob #[.slice a0 n c0, .slice a1 n c1, .slice a2 n c2] (.slice a1 n c1)))
  case first =>
    go_region
    all_goals
      go_wp2_with fail
      go_meet
      case rel =>
        refine ⟨w.heap.size + 1 + 1 + 1, _, _, rfl, NG0.mk ⟨?_, ?_⟩ (by rw [drew_heap, alloc_get, if_pos (by simp)]) (by rw [drew_heap]; repeat (rw [alloc_get]; first | rw [if_pos (by first | (simp; done) | (simp; omega))] | rw [if_neg (by first | (simp; done) | (simp; omega))])) (by rw [drew_heap]; repeat (rw [alloc_get]; first | rw [if_pos (by first | (simp; done) | (simp; omega))] | rw [if_neg (by first | (simp; done) | (simp; omega))])) ⟨by omega, by omega, by omega⟩⟩
        · exact (by repeat (first | exact Below.refl _ _ | assumption | (refine belA ?_ _) | (refine belD ?_ _) | (refine Below.drew ?_)))
        · exact (by rw [drew_heap]; repeat (rw [alloc_get]; first | rw [if_pos (by first | (simp; done) | (simp; omega))] | rw [if_neg (by first | (simp; done) | (simp; omega))]))
  case rest =>
    obtain ⟨gb, nb, ob, rfl, H0⟩ := hcut
    clear mkb mkr
    have hgl := (Array.getElem?_eq_some_iff.1 H0.out.hg).1
    have hnl := (Array.getElem?_eq_some_iff.1 H0.out.hn).1
    have hol := (Array.getElem?_eq_some_iff.1 H0.out.ho).1
    obtain ⟨hgt1, hgt2, hgt3⟩ := H0.out.gt
    have hng : nb ≠ gb := fun e => by
      have := H0.out.hn
      rw [e, H0.out.hg] at this
      simp at this
    have hno : nb ≠ ob := fun e => by
      have := H0.out.hn
      rw [e, H0.out.ho] at this
      simp at this
    have hgo : gb ≠ ob := fun e => by
      have := H0.out.hg
      rw [e, H0.out.ho] at this
      simp at this
    have HNE : Hid (nb ≠ gb ∧ nb ≠ ob ∧ gb ≠ ob) := ⟨hng, hno, hgo⟩
    have HR : Hid (Rows wc 0 n nb (List.replicate n (.slice none 0 0)) (List.replicate n [])) := Rows.made H0.out.hn (by omega) hn3
    have HNG : Hid (NG wc wc.heap.size nb ob n (.slice none 0 0) (List.replicate n (.slice none 0 0)) (allK set 0) (rowsK (rowS g p set s) n 0)) := by
      refine ⟨OI_nil _ _, HR.out.o, fun j hj W' _ => ?_, rowsK_len _ _ _, hnl⟩
      rw [rowsK_nil, show (List.replicate n (Value.slice none 0 0)).getD j undef = .slice none 0 0 by simp [List.getD, hj], show (List.replicate n ([] : List Int)).getD j [] = [] by simp [List.getD, hj]]
      exact ints_nil _
    have HGb : Hid (NGb w wc n gb nb ob #[.slice a0 n c0, .slice a1 n c1, .slice a2 n c2] (.slice a1 n c1)) := ⟨H0.out.bx, H0.out.hg, OB_made H0.out.ho (by omega) hn3⟩
    have HOld : Hid (∀ j, j < n → ∀ W, Below w.heap.size w W → W.cell? ⟨b2, o2 + j, none⟩ = some (V j) ∧ IsInts W (V j) (g.succ.getD j [])) := fun j hj W hW => ⟨cellB hW (dd2 j hj).1, (dd2 j hj).2.below hW⟩
    have HSet : Hid (∀ j, j < n → ∀ W, Below w.heap.size w W → W.cell? ⟨bS, oS + j, none⟩ = some (.bool (set.getD j false))) := fun j hj W hW => cellB hW (ddS j hj)
    have HTt : Hid (∀ j, j < n → ∀ W, Below w.heap.size w W → W.cell? ⟨bT, oT + j, none⟩ = some (.int .i64 (s.getD j 0))) := fun j hj W hW => cellB hW (ddT j hj)
    have HOw : Hid (∀ j, j < n → ∀ W, Below w.heap.size w W → W.cell? ⟨b0, o0 + j, none⟩ = some (.int .i64 (g.owner.getD j 0))) := fun j hj W hW => cellB hW (dd0 j hj)
    have HAD : Hid (0 < n → a0 = some ⟨b0, o0, none⟩ ∧ a2 = some ⟨b2, o2, none⟩ ∧ aS = some ⟨bS, oS, none⟩ ∧ aT = some ⟨bT, oT, none⟩) := fun h => ⟨hd0 h, hd2 h, hdS h, hdT h⟩
    have hBw : w.heap.size < gb := hgt1
    have hBn : w.heap.size < nb := hgt2
    clear hng hno hgo H0 hd0 hd2 hdS hdT dd0 dd2 ddS ddT HR
    obtain ⟨B, hBe⟩ : ∃ B, B = wc.heap.size := ⟨_, rfl⟩
    have hBl : B ≤ wc.heap.size := by omega
    rw [← hBe] at HNG hgl hnl hol
    have HLts : Hid (gb < B ∧ nb < B ∧ ob < B) := ⟨hgl, hnl, hol⟩
    clear hBe hgl hnl hol
    go_wp2
    go_loopg [11, 26] n (fun gh va i wr => ∃ (k : Nat) (vals : List Value), gh = n - k ∧ i = .int .i64 k ∧ k ≤ n ∧ B ≤ wr.heap.size ∧ Hid (NG wr B nb ob n va vals (allK set k) (rowsK (rowS g p set s) n k)) ∧ Hid (NGb w wr n gb nb ob #[.slice a0 n c0, .slice a1 n c1, .slice a2 n c2] (.slice a1 n c1)))
    case atStart => exact ⟨0, _, by omega, rfl, by omega, hBl, HNG, HGb⟩
    case round =>
      clear HNG HGb hBl
      obtain ⟨k, vals, hgk, rfl, hk, hBl, HNG, HGb⟩ := hrel
      have HGK := Lib.hid hgk
      clear hgk
      by_cases hlt : k < n
      · obtain ⟨rfl, rfl, rfl, rfl⟩ := HAD.out (by omega)
        have eS := HSet.out k hlt _ HGb.out.bx.bl
        cases hq : set.getD k false
        · have HKN : Hid (allK set (k + 1) = allK set k ∧ rowsK (rowS g p set s) n (k + 1) = rowsK (rowS g p set s) n k) := ⟨allK_out hq, rowsK_skip _ _ _ (by unfold rowS; rw [hq]; rfl)⟩
          rw [hq] at eS
          clear hq
          go_wp2
          go_roundg (n - (k + 1))
          case measure => have := HGK.out; omega
          case rel => exact ⟨k + 1, vals, rfl, by go_num, by omega, hBl, by rw [HKN.out.1, HKN.out.2]; exact HNG, HGb⟩
        · have HKA : Hid (allK set (k + 1) = allK set k ++ [(k : Int)]) := allK_in hq
          have hal : (allK set k).length ≤ 3000 := Nat.le_trans (allK_len _ _) (by omega)
          rw [hq] at eS
          have HQ := Lib.hid hq
          clear hq
          obtain ⟨w5, rfl⟩ : ∃ w5 : World, w5 = wr := ⟨_, rfl⟩
          go_upto_region 8 with (at_builtin; refine app_int rfl _ _ (k : Int) rfl B _ _ HNG.out.a rfl _ (by simp) rfl (by omega) hBl ?_; intro v' w' hown' hg hmv; obtain ⟨ao', cap', hv'⟩ := hown'.slice; rw [List.length_append, List.length_singleton] at hv'; subst hv'; have HN1 := Lib.hid (HNG.out.app hown' hg hmv); have HG1 := Lib.hid hg; clear hown' hg hmv)
          have hb1 := HG1.out.size
          have HGb1 : Hid (NGb w w' n gb nb ob #[.slice (some ⟨b0, o0, none⟩) n c0, .slice a1 n c1, .slice (some ⟨b2, o2, none⟩) n c2] (.slice a1 n c1)) := HGb.out.only (Only.of_grown HG1.out) fun k hk => by
            have h1 := HNG.out.a.ge k hk
            have := HLts.out
            omega
          have hBl1 : B ≤ w'.heap.size := Nat.le_trans hBl hb1
          have eO := HOw.out k hlt _ HGb1.out.bx.bl
          obtain ⟨aV, cV, hVv⟩ := (HOld.out k hlt _ HGb1.out.bx.bl).2.shape
          have HOk : Hid (∀ W, Below w.heap.size w W → W.cell? ⟨b2, o2 + k, none⟩ = some (.slice aV (g.succ.getD k []).length cV) ∧ IsInts W (.slice aV (g.succ.getD k []).length cV) (g.succ.getD k [])) := fun W hW => hVv ▸ HOld.out k hlt W hW
          have eV := (HOk.out _ HGb1.out.bx.bl).1
          clear hVv
          have d0 := HGb1.out.bx.cell 0 rfl
          have d2 := HGb1.out.bx.cell 2 rfl
          have g1 := cell_of_row _ _ 1 _ _ _ HGb1.out.hg
          have n0 := HN1.out.cell hlt
          have n1 := HN1.out.fz k
          have hki : (k : Int) < n := by omega
          have hk0 : (0 : Int) ≤ k := by omega
          have HU1 : Hid (NG (w'.setCell ⟨nb, k, none⟩ (.slice aV (g.succ.getD k []).length cV)).drew B nb ob n (.slice ao' ((allK set k).length + 1) cap') (vals.set k (.slice aV (g.succ.getD k []).length cV)) (allK set k ++ [(k : Int)]) ((rowsK (rowS g p set s) n k).set k (g.succ.getD k []))) := by
            refine ((HN1.out.below (Below.drew (Below.refl _ _))).put (W := w'.drew) hlt fun W' hW => ?_)
            refine (HOk.out W' ?_).2
            refine Only.to_below (HGb1.out.bx.bl.trans ((Below.drew (Below.refl _ _)))) hW ?_
            rintro q (rfl | h | h | rfl)
            · omega
            · have := HN1.out.a.ge q h; have := HLts.out; omega
            · have : w'.heap.size ≤ q := h
              have := HLts.out; omega
            · omega
          have HGb2 : Hid (NGb w (w'.setCell ⟨nb, k, none⟩ (.slice aV (g.succ.getD k []).length cV)).drew n gb nb ob #[.slice (some ⟨b0, o0, none⟩) n c0, .slice a1 n c1, .slice (some ⟨b2, o2, none⟩) n c2] (.slice a1 n c1)) :=
            (HGb1.out.only (S := fun q => q = nb) (Only.of_below (Below.drew (Below.refl _ _))) (by rintro q rfl; exact ⟨HNE.out.1, HNE.out.2.1, hBn⟩)).only (Only.set nb k (.slice aV (g.succ.getD k []).length cV) rfl) (by rintro q rfl; exact ⟨HNE.out.1, HNE.out.2.1, hBn⟩)
          clear eS HNG HG1 HGb hb1 hBl
          clear HOk
          generalize (allK set k).length = AL at *
          generalize (g.succ.getD k []).length = SL at *
          go_region
          clear eV d0 d2 g1 n0 n1 eO HN1 HGb1
          have hBl2 : B ≤ (w'.setCell ⟨nb, k, none⟩ (.slice aV SL cV)).drew.heap.size := by simpa using hBl1
          generalize (w'.setCell ⟨nb, k, none⟩ (.slice aV SL cV)).drew = w6 at *
          clear hBl1
          have d0 := HGb2.out.bx.cell 0 rfl
          have eO := HOw.out k hlt _ HGb2.out.bx.bl
          have HOR : Hid ((g.owner.getD k 0 = p → rowS g p set s k = [s.getD k 0]) ∧ (¬ g.owner.getD k 0 = p → rowS g p set s k = g.succ.getD k [])) := ⟨fun h => by unfold rowS; rw [HQ.out, if_pos rfl, if_pos h], fun h => by unfold rowS; rw [HQ.out, if_pos rfl, if_neg h]⟩
          generalize g.owner.getD k 0 = ow at *
          cases ho : (ow == p)
          · have HKN : Hid ((rowsK (rowS g p set s) n k).set k (g.succ.getD k []) = rowsK (rowS g p set s) n (k + 1)) := by
              show _ = _
              rw [← rowsK_set, HOR.out.2 (by simpa using ho)]
            go_wp2
            go_roundg (n - (k + 1))
            case measure => have := HGK.out; omega
            case rel => exact ⟨k + 1, _, rfl, by go_num, by omega, hBl2, by rw [HKA.out, ← HKN.out]; exact HU1, HGb2⟩
          · have HKN : Hid (((rowsK (rowS g p set s) n k).set k (g.succ.getD k [])).set k [s.getD k 0] = rowsK (rowS g p set s) n (k + 1)) := by
              show _ = _
              rw [List.set_set, ← rowsK_set, HOR.out.1 (by simpa using ho)]
            go_upto_region 10 with (fail)
            clear d0 eO ho
            have eT := HTt.out k hlt _ HGb2.out.bx.bl
            have hx64 : I64 (s.getD k 0) := HX64.out _ (by rw [getD_lt _ _ _ (by rw [HL2.out]; exact hlt)]; exact List.getElem_mem _)
            have g1 := cell_of_row _ _ 1 _ _ _ HGb2.out.hg
            have n0 := HU1.out.cell hlt
            have n1 := HU1.out.fz k
            generalize hxe : s.getD k 0 = x at *
            have HXE := Lib.hid hxe
            clear hxe
            have HU2 : Hid (∀ W, W = w6.alloc (.cells #[.int .i64 x] 3) → ∀ u, u = w6.heap.size → NG (W.setCell ⟨nb, k, none⟩ (.slice (some ⟨u, 0, none⟩) 1 1)).drew B nb ob n (.slice ao' (AL + 1) cap') ((vals.set k (.slice aV SL cV)).set k (.slice (some ⟨u, 0, none⟩) 1 1)) (allK set k ++ [(k : Int)]) (((rowsK (rowS g p set s) n k).set k (g.succ.getD k [])).set k [x])) := by
              rintro W rfl u rfl
              show NG ((w6.drew.alloc (.cells #[.int .i64 x] 3)).setCell ⟨nb, k, none⟩ _) _ _ _ _ _ _ _ _
              have hb : Below w6.heap.size w6 (w6.drew.alloc (.cells #[.int .i64 x] 3)) := (by repeat (first | exact Below.refl _ _ | assumption | (refine belA ?_ _) | (refine belD ?_ _) | (refine Below.drew ?_)))
              refine (HU1.out.below hb).put hlt fun W' hW => IsInts.box1 ?_ hx64
              refine (hW.block _ (by simp) ?_).trans (heap_alloc_new w6.drew _)
              rintro (h | h | h | h)
              · have := HLts.out; omega
              · have := HU1.out.a.lt' _ h; omega
              · simp at h
                omega
              · have := HLts.out; omega
            have HGb3 : Hid (∀ W, W = w6.alloc (.cells #[.int .i64 x] 3) → ∀ u, NGb w (W.setCell ⟨nb, k, none⟩ u).drew n gb nb ob #[.slice (some ⟨b0, o0, none⟩) n c0, .slice a1 n c1, .slice (some ⟨b2, o2, none⟩) n c2] (.slice a1 n c1)) := by
              rintro W rfl u
              have hb : Below w6.heap.size w6 (w6.drew.alloc (.cells #[.int .i64 x] 3)) := (by repeat (first | exact Below.refl _ _ | assumption | (refine belA ?_ _) | (refine belD ?_ _) | (refine Below.drew ?_)))
              exact (HGb2.out.only (S := fun q => q = nb) (Only.of_below hb) (by rintro q rfl; exact ⟨HNE.out.1, HNE.out.2.1, hBn⟩)).only (Only.set nb k u rfl) (by rintro q rfl; exact ⟨HNE.out.1, HNE.out.2.1, hBn⟩)
            have hnl6 : nb < w6.heap.size := by have := HLts.out; omega
            have hb6 : Below w6.heap.size w6 (w6.alloc (.cells #[.int .i64 x] 3)) := bel_box _
            have g1' := cellB hb6 g1
            have n0' := cellB hb6 n0
            have eT' := cellB hb6 eT
            have n1' := (hb6.frozen (p := ⟨nb, k, none⟩) hnl6).trans n1
            clear hb6
            go_region
            all_goals trace "two"
            all_goals
              clear eT g1 n0 n1 eT' g1' n0' n1'
              go_wp2_with fail
              go_roundg (n - (k + 1))
              case measure => have := HGK.out; omega
              case rel => exact ⟨k + 1, _, rfl, by go_num, by omega, by simp; omega, by rw [HKA.out, ← HKN.out, ← World.setCell_alloc_past _ _ _ _ hnl6]; exact HU2.out _ rfl _ rfl, by rw [← World.setCell_alloc_past _ _ _ _ hnl6]; exact HGb3.out _ rfl _⟩
      · obtain rfl : k = n := by omega
        have hal : (allK set k).length ≤ 3000 := Nat.le_trans (allK_len _ _) (by omega)
        have HFin : Hid (GrOut w k (.slice a1 k c1) g.prio (allK set k) (rowsK (rowS g p set s) k k) (.returned (.tuple #[.pointer (some ⟨gb, 0, none⟩), u11])) wr) := by
          refine ⟨gb, nb, ob, fun j => vals.getD j undef, u11, rfl, HGb.out.ho, HGb.out.bx.bl, by omega, fun W' hW => ?_⟩
          have hlts := HLts.out
          have hs : ∀ q, (q = ob ∨ wr.heap.size ≤ q) → w.heap.size ≤ q := by rintro q (rfl | h) <;> omega
          have hB' := Only.to_below HGb.out.bx.bl hW hs
          refine ⟨⟨(hW.block gb (by omega) (by have := HNE.out; omega)).trans HGb.out.hg, HLP.out ▸ HP1.out.below hB', fun j hj => ⟨?_, ?_⟩⟩, ?_⟩
          · have hoo := ownsRow_only HNG.out.o hW fun q hq hk => by
              have e : nb = q := by simpa [Value.ownBlock] using hq
              have := HNE.out
              omega
            rw [World.ownsRow.cellAt hoo j (by omega)]
            have : j < vals.length := by rw [HNG.out.lv]; exact hj
            simp [this]
          · exact HNG.out.e j hj W' (hW.mono fun q _ hq => by
              rcases hq with h | h
              · exact .inr (.inr (.inr h))
              · exact .inr (.inr (.inl h)))
          · refine (HNG.out.a.only hW fun q hq hk => ?_).is (by simp only [maxN]; omega) (allK_i64 (by omega))
            have h1 := HNG.out.a.ge q hq
            have h2 := HNG.out.a.lt' q hq
            omega
        go_wp2
        go_ret2
        exact HFin.out

end Go.Proofs.Ytkbiopjinegckaa
