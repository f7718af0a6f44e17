/- What newBoard computes. -/
import Derived.Test.YtjadeffdcbchnaaDoorAr3
import Derived.Test.YtjadeffdcbchnaaDoorArSc
namespace Go.Proofs.YtjadeffdcbchnaaDoor
open Go.RowKit

/-- The greatest priority, at least a number. -/
def maxR (m : Int) (row : List Int) : Int := row.foldl max m
def topK (a : Au) (k : Nat) : Int := (a.prio.take k).foldl maxR 0
def topA (a : Au) : Int := a.prio.foldl maxR 0
theorem topK_succ (a : Au) (k : Nat) (h : k < a.prio.length) : topK a (k + 1) = maxR (topK a k) (a.prio.getD k []) := by
  unfold topK; rw [List.take_succ_eq_append_getElem h, List.foldl_append, getD_lt _ _ _ h]; rfl
theorem topK_all (a : Au) : topK a a.prio.length = topA a := by unfold topK topA; rw [List.take_length]
theorem maxR_succ (m : Int) (row : List Int) (j : Nat) (h : j < row.length) : maxR m (row.take (j + 1)) = max (maxR m (row.take j)) (row.getD j 0) := by
  unfold maxR; rw [List.take_succ_eq_append_getElem h, List.foldl_append, getD_lt _ _ _ h]; rfl

/-- The letters of all inputs and outputs. -/
def joinT (l : List Sig) : List (List Int) := (List.range (inputsI l).toNat).map fun (i : Nat) => (List.range (outputsI l).toNat).map fun (o : Nat) => joinI l (i : Int) (o : Int)
/-- The first rows, and the first places of the next one. -/
def joinK (l : List Sig) (i : Nat) : List (List Int) := (List.range (inputsI l).toNat).map fun (k : Nat) => if k < i then (List.range (outputsI l).toNat).map fun (o : Nat) => joinI l (k : Int) (o : Int) else []
def joinR (l : List Sig) (i o : Nat) : List Int := (List.range (outputsI l).toNat).map fun (k : Nat) => if k < o then joinI l (i : Int) (k : Int) else 0
theorem joinK_zero (l : List Sig) : joinK l 0 = List.replicate (inputsI l).toNat [] := by
  apply List.ext_getElem (by simp [joinK])
  intro j h1 h2
  simp [joinK]
theorem joinK_all (l : List Sig) : joinK l (inputsI l).toNat = joinT l := by
  apply List.ext_getElem (by simp [joinK, joinT])
  intro j h1 h2
  have : j < (inputsI l).toNat := by simpa [joinK] using h1
  simp only [joinK, joinT, List.getElem_map, List.getElem_range]
  rw [if_pos this]
theorem joinK_len (l : List Sig) (i : Nat) : (joinK l i).length = (inputsI l).toNat := by simp [joinK]
theorem joinR_len (l : List Sig) (i o : Nat) : (joinR l i o).length = (outputsI l).toNat := by simp [joinR]
theorem joinR_zero (l : List Sig) (i : Nat) : joinR l i 0 = List.replicate (outputsI l).toNat 0 := by
  apply List.ext_getElem (by simp [joinR])
  intro j h1 h2
  simp [joinR]
theorem joinR_set (l : List Sig) (i o : Nat) : (joinR l i o).set o (joinI l i o) = joinR l i (o + 1) := by
  apply List.ext_getElem (by simp [joinR])
  intro j h1 h2
  rw [List.getElem_set]
  simp only [joinR, List.getElem_map, List.getElem_range]
  by_cases e : o = j
  · subst e; simp
  · rw [if_neg e]
    by_cases h3 : j < o
    · rw [if_pos h3, if_pos (by omega)]
    · rw [if_neg h3, if_neg (by omega)]
theorem joinK_set (l : List Sig) (i : Nat) : (joinK l i).set i (joinR l i (outputsI l).toNat) = joinK l (i + 1) := by
  apply List.ext_getElem (by simp [joinK])
  intro j h1 h2
  rw [List.getElem_set]
  have hj : j < (inputsI l).toNat := by simpa [joinK] using h1
  simp only [joinK, List.getElem_map, List.getElem_range]
  by_cases e : i = j
  · subst e
    rw [if_pos rfl, if_pos (by omega)]
    apply List.ext_getElem (by simp [joinR])
    intro o h3 h4
    have : o < (outputsI l).toNat := by simpa [joinR] using h3
    simp only [joinR, List.getElem_map, List.getElem_range]
    rw [if_pos this]
  · rw [if_neg e]
    by_cases h3 : j < i
    · rw [if_pos h3, if_pos (by omega)]
    · rw [if_neg h3, if_neg (by omega)]

theorem OI_made {w : World} {B g n : Nat} (h : w.heap[g]? = some (.cells (madeCells #[.int .i64 0] n) 3 (0, 0))) (hb : B ≤ g) (hn : n ≤ 3000) : OI w B (.slice (some ⟨g, 0, none⟩) n n) (List.replicate n 0) := by
  refine ⟨by simp, .inr ⟨g, n, _, ?_, hb, h, ?_, by simp only [maxLen]; omega, by simp [size_madeCells], ?_⟩⟩
  · simp
  · simp
  · rw [toList_madeCells_one]; simp
theorem Rows.made {W : World} {B ob n : Nat} (h : W.heap[ob]? = some (.cells (madeCells #[.slice none 0 0] n) 26 (0, 0))) (hb : B ≤ ob) (hn : n ≤ 3000) : Rows W B n ob (List.replicate n (.slice none 0 0)) (List.replicate n []) := by
  have hg : ∀ j, j < n → (List.replicate n (Value.slice none 0 0)).getD j undef = .slice none 0 0 := fun j hj => by simp [List.getD, hj]
  have hg2 : ∀ j, j < n → (List.replicate n ([] : List Int)).getD j [] = [] := fun j hj => by simp [List.getD, hj]
  refine ⟨⟨by simp, .inr ⟨ob, n, _, rfl, hb, h, Nat.le_refl _, by simp only [maxLen]; omega, by simp [size_madeCells], ?_⟩⟩, fun j hj => ?_, fun i j hi hj _ => ?_, fun j hj => ?_, by simp, by simp⟩
  · rw [toList_madeCells_one]; simp
  · rw [hg j hj, hg2 j hj]; exact OI_nil _ _
  · rw [hg i hi]; intro k hk; cases hk
  · rw [hg j hj]; intro hk; cases hk

theorem Rows.elem {w : World} {B n ob : Nat} {vals : List Value} {rows : List (List Int)} (h : Rows w B n ob vals rows) {u : Nat} (hu : u < n) {g len cap : Nat} (hg : vals.getD u undef = .slice (some ⟨g, 0, none⟩) len cap) (hl : len = (rows.getD u []).length) (j : Nat) (x : Int) :
    Rows (w.setCell ⟨g, j, none⟩ (.int .i64 x)) B n ob vals (rows.set u ((rows.getD u []).set j x)) := by
  have ho : Only (fun k => k = g) w (w.setCell ⟨g, j, none⟩ (.int .i64 x)) := Only.set g j _ rfl
  have hown : (vals.getD u undef).ownBlock = some g := by rw [hg]; rfl
  have hlr : u < rows.length := by rw [h.lr]; exact hu
  refine ⟨ownsRow_only h.o ho (fun k hk e => by cases hk; exact h.ob' u hu (by rw [hown]; exact congrArg some e.symm)), fun i hi => ?_, h.a, h.ob', h.lv, by simpa using h.lr⟩
  by_cases e : u = i
  · subst e
    have h1 := h.e u hu
    rw [hg] at h1 ⊢
    rw [getD_set_eq _ _ _ _ hlr]
    exact h1.set hl j x
  · rw [getD_set_ne _ _ _ _ _ e]
    exact (h.e i hi).only ho fun k hk x => h.a u i hu hi e g hown (x ▸ hk)

theorem joinT_ok {l : List Sig} (hv : validS l = true) (j : Nat) (hj : j < (inputsI l).toNat) : ((joinT l).getD j []).length ≤ 3000 ∧ ∀ x ∈ (joinT l).getD j [], I64 x := by
  obtain ⟨⟨hi0, hi1⟩, ⟨ho0, ho1⟩⟩ := sides_bd hv
  have hlen : j < (joinT l).length := by simpa [joinT] using hj
  have e : (joinT l).getD j [] = (List.range (outputsI l).toNat).map fun (o : Nat) => joinI l (j : Int) (o : Int) := by
    rw [getD_lt _ _ _ hlen]; simp only [joinT, List.getElem_map, List.getElem_range]
  rw [e]
  refine ⟨by rw [List.length_map, List.length_range]; omega, fun x hx => ?_⟩
  obtain ⟨o, ho, rfl⟩ := List.mem_map.1 hx
  have ho := List.mem_range.1 ho
  have h1 := (join_law hv (i := (j : Int)) (o := (o : Int)) (by omega) (by omega) (by omega) (by omega)).1
  have h2 := letters_bd hv
  unfold I64; omega

/-- What is known in newBoard: z: the board's block; ob: that of the rows. -/
structure NB (w wr : World) (z ob n : Nat) (L S : Int) (v2 v3 : Value) (tp : Int) (vals : List Value) (bf : List (List Int)) : Prop where
  bx : Below w.heap.size w wr
  pb : wr.heap[w.heap.size]? = some (.cells #[.int .i64 L, .int .i64 S, v2, v3] 25 (0, 0))
  rc : wr.heap[w.heap.size + 1]? = some (.cells #[.int .i64 0, .int .i64 0, .slice none 0 0, .slice none 0 0, .int .i64 0, .slice none 0 0] 70 (0, 0))
  bd : wr.heap[z]? = some (.cells #[.int .i64 L, .int .i64 S, v2, v3, .int .i64 tp, .slice (some ⟨ob, 0, none⟩) n n] 70 (0, 0))
  R : Rows wr (w.heap.size + 2) n ob vals bf
  zB : w.heap.size + 2 ≤ z
  ne : ob ≠ z
  x : ∀ j, j < n → ∀ b, (vals.getD j undef).ownBlock = some b → b ≠ z
section
variable {w wr w' : World} {z ob n : Nat} {L S : Int} {v2 v3 : Value} {tp : Int} {vals : List Value} {bf : List (List Int)}
theorem NB.lt (h : NB w wr z ob n L S v2 v3 tp vals bf) : w.heap.size + 2 ≤ wr.heap.size ∧ z < wr.heap.size := by
  have := (Array.getElem?_eq_some_iff.1 h.rc).1
  exact ⟨by omega, (Array.getElem?_eq_some_iff.1 h.bd).1⟩
theorem NB.below (h : NB w wr z ob n L S v2 v3 tp vals bf) (hb : Below wr.heap.size wr w') : NB w w' z ob n L S v2 v3 tp vals bf := by
  have hl := h.lt
  have ho : Only (fun _ => False) wr w' := ⟨hb.os, hb.tape, hb.output, hb.size, fun k hk _ => hb.block k hk⟩
  exact { h with
    bx := h.bx.trans (hb.mono h.bx.size)
    pb := (hb.block _ (by omega)).trans h.pb
    rc := (hb.block _ (by omega)).trans h.rc
    bd := (hb.block _ hl.2).trans h.bd
    R := h.R.only ho (fun e => e) fun _ _ _ _ e => e }
theorem NB.top (h : NB w wr z ob n L S v2 v3 tp vals bf) (t : Int) : NB w (wr.setCell ⟨z, 4, none⟩ (.int .i64 t)) z ob n L S v2 v3 t vals bf := by
  have hl := h.lt
  have hz := h.zB
  have ho : Only (fun k => k = z) wr (wr.setCell ⟨z, 4, none⟩ (.int .i64 t)) := Only.set z 4 _ rfl
  exact { h with
    bx := h.bx.setCell (p := ⟨z, 4, none⟩) (by show w.heap.size ≤ z; omega) _
    pb := (ho.block _ (by omega) (by omega)).trans h.pb
    rc := (ho.block _ (by omega) (by omega)).trans h.rc
    bd := heap_setCell_same _ z 4 _ _ _ h.bd
    R := h.R.only ho h.ne fun j hj b hb e => h.x j hj b hb e }
theorem NB.row {W : World} {u : Nat} {v' : Value} {l : List Int} (h : NB w wr z ob n L S v2 v3 tp vals bf) (hu : u < n) (hb : Below wr.heap.size wr W) (hv : OI W (w.heap.size + 2) v' l) (hf : ∀ b, v'.ownBlock = some b → wr.heap.size ≤ b) :
    W.cell? ⟨ob, u, none⟩ = some (vals.getD u undef) ∧ W.frozen? ⟨ob, u, none⟩ = false ∧ NB w (W.setCell ⟨ob, u, none⟩ v') z ob n L S v2 v3 tp (vals.set u v') (bf.set u l) := by
  have hl := h.lt
  have h' := h.below hb
  obtain ⟨p1, p2, p3⟩ := h.R.push hu hv ⟨hb.os, hb.tape, hb.output, hb.size, fun k hk _ => hb.block k hk⟩ (fun b e => .inr (hf b e))
  have hr := h.R.row
  have hlv : u < vals.length := by rw [h.R.lv]; exact hu
  have ho : Only (fun k => k = ob) W (W.setCell ⟨ob, u, none⟩ v') := Only.set ob u v' rfl
  have hs := hb.size
  refine ⟨p1, p2, { h with
    bx := h'.bx.setCell (p := ⟨ob, u, none⟩) (by show w.heap.size ≤ ob; omega) _
    pb := (ho.block _ (by omega) (by omega)).trans h'.pb
    rc := (ho.block _ (by omega) (by omega)).trans h'.rc
    bd := (ho.block _ (by omega) (Ne.symm h.ne)).trans h'.bd
    R := p3
    x := fun j hj b e => ?_ }⟩
  by_cases e1 : u = j
  · subst e1
    rw [getD_set_eq _ _ _ _ hlv] at e
    have := hf b e; omega
  · rw [getD_set_ne _ _ _ _ _ e1] at e
    exact h.x j hj b e
theorem NB.elem {u : Nat} (h : NB w wr z ob n L S v2 v3 tp vals bf) (hu : u < n) {g len cap : Nat} (hg : vals.getD u undef = .slice (some ⟨g, 0, none⟩) len cap) (hlen : len = (bf.getD u []).length) (j : Nat) (x : Int) :
    NB w (wr.setCell ⟨g, j, none⟩ (.int .i64 x)) z ob n L S v2 v3 tp vals (bf.set u ((bf.getD u []).set j x)) := by
  have hl := h.lt
  have ho : Only (fun k => k = g) wr (wr.setCell ⟨g, j, none⟩ (.int .i64 x)) := Only.set g j _ rfl
  have hown : (vals.getD u undef).ownBlock = some g := by rw [hg]; rfl
  have hge := (h.R.e u hu).ge g hown
  exact { h with
    bx := h.bx.setCell (p := ⟨g, j, none⟩) (by show w.heap.size ≤ g; omega) _
    pb := (ho.block _ (by omega) (by omega)).trans h.pb
    rc := (ho.block _ (by omega) (by omega)).trans h.rc
    bd := (ho.block _ hl.2 (fun e => h.x u hu g hown e.symm)).trans h.bd
    R := h.R.elem hu hg hlen j x }
end

end Go.Proofs.YtjadeffdcbchnaaDoor
