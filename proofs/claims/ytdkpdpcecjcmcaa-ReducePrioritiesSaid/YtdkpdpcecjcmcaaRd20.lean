/- The search's order of the states; the trimmed automaton (plain). -/
import Derived.Test.YtdkpdpcecjcmcaaRdA
namespace Go.Proofs.Ytdkpdpcecjcmcaa

def addI (l : List Int) (y : Int) : List Int := if y ∈ l then l else l ++ [y]
def addR (l row : List Int) : List Int := row.foldl addI l
def rowN (a : Au) (s : Int) : List Int := a.next.getD s.toNat []
def rowP (a : Au) (s : Int) : List Int := a.prio.getD s.toNat []
def srchF (a : Au) : Nat → Nat → List Int → List Int
  | 0, _, l => l
  | f + 1, n, l => if n < l.length then srchF a f (n + 1) (addR l (rowN a (l.getD n 0))) else l
def ordA (a : Au) : List Int := srchF a (a.next.length + 1) 0 [a.start]
def idxR (l row : List Int) : List Int := row.map fun y => (l.idxOf y : Int)
def trimA (a : Au) : Au := ⟨a.letters, 0, (ordA a).map fun s => idxR (ordA a) (rowN a s), (ordA a).map (rowP a)⟩
def trimF (a : Au) : Au := if validA a then trimA a else noAu

section
variable {l row : List Int} {y : Int} {a : Au} {k n : Nat}
theorem addI_mem {z : Int} : z ∈ addI l y ↔ z ∈ l ∨ z = y := by
  unfold addI
  by_cases h : y ∈ l
  · rw [if_pos h]; constructor
    · exact .inl
    · rintro (e | rfl)
      · exact e
      · exact h
  · rw [if_neg h]; simp
theorem addI_nd (h : l.Nodup) : (addI l y).Nodup := by
  unfold addI
  by_cases hy : y ∈ l
  · rw [if_pos hy]; exact h
  · rw [if_neg hy, List.nodup_append]
    exact ⟨h, by simp, fun a ha b hb e => hy (by rw [← List.mem_singleton.1 hb, ← e]; exact ha)⟩
theorem addI_pre (l : List Int) (y : Int) : ∃ e, addI l y = l ++ e := by
  unfold addI
  by_cases hy : y ∈ l
  · rw [if_pos hy]; exact ⟨[], by simp⟩
  · rw [if_neg hy]; exact ⟨[y], rfl⟩
theorem addR_snoc (l row : List Int) (y : Int) : addR l (row ++ [y]) = addI (addR l row) y := by simp [addR]
theorem addR_mem : ∀ {row l : List Int} {z : Int}, z ∈ addR l row ↔ z ∈ l ∨ z ∈ row
  | [], l, z => by simp [addR]
  | y :: row, l, z => by
    show z ∈ addR (addI l y) row ↔ _
    rw [addR_mem, addI_mem, List.mem_cons, or_assoc]
theorem addR_nd : ∀ {row l : List Int}, l.Nodup → (addR l row).Nodup
  | [], _, h => h
  | _ :: row, _, h => addR_nd (row := row) (addI_nd h)
theorem addR_pre : ∀ (row l : List Int), ∃ e, addR l row = l ++ e
  | [], l => ⟨[], by simp [addR]⟩
  | y :: row, l => by
    obtain ⟨e1, h1⟩ := addI_pre l y
    obtain ⟨e2, h2⟩ := addR_pre row (addI l y)
    exact ⟨e1 ++ e2, by show addR (addI l y) row = _; rw [h2, h1, List.append_assoc]⟩
theorem idx_pre {e : List Int} (h : y ∈ l) : (l ++ e).idxOf y = l.idxOf y := idxI_pre h
theorem idxR_pre {e : List Int} (h : ∀ y ∈ row, y ∈ l) : idxR (l ++ e) row = idxR l row := List.map_congr_left fun y hy => by rw [idxI_pre (h y hy)]
theorem getD_pre {e : List Int} {i : Nat} (h : i < l.length) : (l ++ e).getD i 0 = l.getD i 0 := by simp [List.getD, List.getElem?_append_left h]

theorem nd_le {α : Type} [DecidableEq α] {l l' : List α} (hn : l.Nodup) (h : ∀ x ∈ l, x ∈ l') : l.length ≤ l'.length := by
  induction l generalizing l' with
  | nil => exact Nat.zero_le _
  | cons x t ih =>
    have h2 := List.nodup_cons.1 hn
    have h1 := ih h2.2 (l' := l'.erase x) fun y hy => (List.mem_erase_of_ne (a := y) (b := x) (by rintro rfl; exact h2.1 hy)).2 (h y (List.mem_cons_of_mem _ hy))
    have h3 := List.length_erase_of_mem (h x List.mem_cons_self)
    have h4 : 0 < l'.length := List.length_pos_of_mem (h x List.mem_cons_self)
    rw [List.length_cons]
    omega
theorem getD_mem {l : List Int} {x : Nat} (h : x < l.length) : l.getD x 0 ∈ l := by rw [getD_lt _ _ _ h]; exact List.getElem_mem h
theorem getD_take {l : List Int} {x j : Nat} (hj : j < x) (h : j < l.length) : (l.take x).getD j 0 = l.getD j 0 := by
  rw [getD_lt _ _ _ (by rw [List.length_take]; omega), getD_lt _ _ _ h, List.getElem_take]
theorem mem_take_getD {l : List Int} {x j : Nat} (hj : j < x) (h : j < l.length) : l.getD j 0 ∈ l.take x := by
  rw [← getD_take hj h]; exact getD_mem (by rw [List.length_take]; omega)
/-- Where the search stands: the rows of the first n states have been gone through. -/
structure TrS (a : Au) (n : Nat) (l : List Int) : Prop where
  nd : l.Nodup
  rg : ∀ y ∈ l, 0 ≤ y ∧ y < a.next.length
  hd : l.getD 0 0 = a.start ∧ 0 < l.length
  nl : n ≤ l.length
  cl : ∀ i, i < n → ∀ y ∈ rowN a (l.getD i 0), y ∈ l
  fu : srchF a (a.next.length + 1 - n) n l = ordA a
theorem nd_int {N : Nat} (h : l.Nodup) (hr : ∀ y ∈ l, 0 ≤ y ∧ y < (N : Int)) : l.length ≤ N := by
  have h1 : (l.map Int.toNat).Nodup := by
    unfold List.Nodup
    rw [List.pairwise_map]
    refine h.imp_of_mem fun ha hb hne e => hne ?_
    have h1 := hr _ ha
    have h2 := hr _ hb
    omega
  have h2 : ∀ x ∈ l.map Int.toNat, x ∈ List.range N := fun x hx => by
    obtain ⟨y, hy, rfl⟩ := List.mem_map.1 hx
    have := hr y hy
    rw [List.mem_range]; omega
  have h4 := nd_le h1 h2
  simpa using h4
theorem TrS.len (h : TrS a n l) : l.length ≤ a.next.length := nd_int h.nd h.rg
theorem TrS.start (h : AuV a k) : TrS a 0 [a.start] := by
  refine ⟨by simp, fun y hy => by rw [List.mem_singleton.1 hy]; exact h.st, ⟨rfl, by simp⟩, Nat.zero_le _, fun i hi => absurd hi (Nat.not_lt_zero _), rfl⟩
theorem rowN_rg (h : AuV a k) {s : Int} (h0 : 0 ≤ s ∧ s < a.next.length) : (rowN a s).length = k ∧ ∀ y ∈ rowN a s, 0 ≤ y ∧ y < a.next.length := by
  have hs : s.toNat < a.next.length := by omega
  refine ⟨(h.ln _ hs).1, fun y hy => ?_⟩
  obtain ⟨j, hj, rfl⟩ := mem_getD hy
  exact h.nx _ j hs (by have := (h.ln _ hs).1; unfold rowN at hj; omega)
theorem TrS.at' (h : TrS a n l) {i : Nat} (hi : i < l.length) : 0 ≤ l.getD i 0 ∧ l.getD i 0 < a.next.length := by
  rw [getD_lt _ _ _ hi]; exact h.rg _ (List.getElem_mem hi)
theorem TrS.next (hA : AuV a k) (h : TrS a n l) (hn : n < l.length) : TrS a (n + 1) (addR l (rowN a (l.getD n 0))) := by
  obtain ⟨e, he⟩ := addR_pre (rowN a (l.getD n 0)) l
  have hr := rowN_rg hA (h.at' hn)
  have hlen := h.len
  refine ⟨addR_nd h.nd, fun y hy => (addR_mem.1 hy).elim (h.rg y) (hr.2 y), ?_, ?_, fun i hi y hy => ?_, ?_⟩
  · rw [he, getD_pre h.hd.2]
    exact ⟨h.hd.1, by have := h.hd.2; simp; omega⟩
  · rw [he]; simp; omega
  · rw [he, getD_pre (by omega)] at hy
    rw [addR_mem]
    by_cases e : i = n
    · subst e; exact .inr hy
    · exact .inl (h.cl i (by omega) y hy)
  · rw [← h.fu, show a.next.length + 1 - n = (a.next.length + 1 - (n + 1)) + 1 by omega]
    show _ = if n < l.length then _ else _
    rw [if_pos hn]
theorem TrS.done (h : TrS a l.length l) : ordA a = l := by
  have hlen := h.len
  rw [← h.fu, show a.next.length + 1 - l.length = (a.next.length - l.length) + 1 by omega]
  show (if l.length < l.length then _ else _) = l
  rw [if_neg (Nat.lt_irrefl _)]
theorem TrS.exA (hA : AuV a k) : ∀ (d n : Nat) (l : List Int), a.next.length - n ≤ d → TrS a n l → ∃ l, TrS a l.length l
  | 0, n, l, hd, h => by
    have h1 := h.len; have h2 := h.nl
    have : n = l.length := by omega
    subst this
    exact ⟨l, h⟩
  | d + 1, n, l, hd, h => by
    have h1 := h.len; have h2 := h.nl
    by_cases e : n < l.length
    · exact TrS.exA hA d (n + 1) _ (by omega) (h.next hA e)
    · have : n = l.length := by omega
      subst this
      exact ⟨l, h⟩
/-- The whole search. -/
theorem TrS.ord (hA : AuV a k) : TrS a (ordA a).length (ordA a) := by
  obtain ⟨l, h⟩ := TrS.exA hA _ _ _ (Nat.le_refl _) (TrS.start hA)
  rw [h.done]; exact h
/-- Row n of the trimmed automaton, of the order so far. -/
def nxsA (a : Au) (n : Nat) (l : List Int) : List (List Int) := (l.take n).map fun s => idxR l (rowN a s)
theorem take_getD {n : Nat} (hn : n < l.length) : l.take (n + 1) = l.take n ++ [l.getD n 0] := by rw [List.take_succ_eq_append_getElem hn, getD_lt _ _ _ hn]
theorem nxsA_next (h : TrS a n l) (hn : n < l.length) : nxsA a (n + 1) (addR l (rowN a (l.getD n 0))) = nxsA a n l ++ [idxR (addR l (rowN a (l.getD n 0))) (rowN a (l.getD n 0))] := by
  obtain ⟨e, he⟩ := addR_pre (rowN a (l.getD n 0)) l
  unfold nxsA
  have ht : (addR l (rowN a (l.getD n 0))).take (n + 1) = l.take n ++ [l.getD n 0] := by
    rw [he, List.take_append_of_le_length (by omega), take_getD hn]
  rw [ht, List.map_append]
  congr 1
  refine List.map_congr_left fun s hs => ?_
  rw [he]
  refine idxR_pre fun y hy => ?_
  obtain ⟨i, hi, rfl⟩ := List.getElem_of_mem hs
  rw [List.length_take] at hi
  rw [List.getElem_take, ← getD_lt l 0 i (by omega)] at hy
  exact h.cl i (by omega) y hy
def prsA (a : Au) (n : Nat) (l : List Int) : List (List Int) := (l.take n).map (rowP a)
theorem prsA_next (hn : n < l.length) (row : List Int) : prsA a (n + 1) (addR l row) = prsA a n l ++ [rowP a (l.getD n 0)] := by
  obtain ⟨e, he⟩ := addR_pre row l
  unfold prsA
  rw [he, List.take_append_of_le_length (by omega), take_getD hn, List.map_append]; rfl
theorem trimA_of (h : TrS a l.length l) : trimA a = ⟨a.letters, 0, nxsA a l.length l, prsA a l.length l⟩ := by
  unfold trimA nxsA prsA
  rw [h.done, List.take_length]
theorem nxsA_len (h : n ≤ l.length) : (nxsA a n l).length = n := by unfold nxsA; rw [List.length_map, List.length_take]; omega
theorem prsA_len (h : n ≤ l.length) : (prsA a n l).length = n := by unfold prsA; rw [List.length_map, List.length_take]; omega
theorem idxR_at {l row : List Int} {x : Nat} (h : x < row.length) : (idxR l row).getD x 0 = (l.idxOf (row.getD x 0) : Int) := by
  rw [getD_lt _ _ _ (by unfold idxR; rw [List.length_map]; exact h), getD_lt _ _ _ h]
  simp [idxR]
theorem trimA_nx {s : Nat} (hs : s < (ordA a).length) : (trimA a).next.getD s [] = idxR (ordA a) (rowN a ((ordA a).getD s 0)) := by
  rw [getD_lt _ _ _ (by simpa [trimA] using hs), getD_lt _ _ _ hs]; simp [trimA]
theorem trimA_pr {s : Nat} (hs : s < (ordA a).length) : (trimA a).prio.getD s [] = rowP a ((ordA a).getD s 0) := by
  rw [getD_lt _ _ _ (by simpa [trimA] using hs), getD_lt _ _ _ hs]; simp [trimA]
theorem AuV.trim (hA : AuV a k) : AuV (trimA a) k := by
  have ho := TrS.ord hA
  have hl : (trimA a).next.length = (ordA a).length := by simp [trimA]
  have hp : (trimA a).prio.length = (ordA a).length := by simp [trimA]
  have h0 := ho.hd.2
  have h1 := ho.len
  have hn1 := hA.n1
  refine ⟨hA.L, hA.k1, by omega, by omega, by show (0 : Int) ≤ 0 ∧ (0 : Int) < _; omega, fun s hs => ?_, fun s x hs hx => ?_, fun s x hs hx => ?_⟩
  · rw [hl] at hs
    have h2 := ho.at' hs
    rw [trimA_nx hs, trimA_pr hs]
    exact ⟨by unfold idxR; rw [List.length_map]; exact (rowN_rg hA h2).1, (hA.ln _ (by omega)).2⟩
  · rw [hl] at hs
    have h2 := ho.at' hs
    have h3 := (rowN_rg hA h2).1
    rw [trimA_nx hs, hl, idxR_at (by omega)]
    have h5 := idxI_lt (ho.cl s hs _ (getD_mem (x := x) (by omega)))
    omega
  · rw [hl] at hs
    have h2 := ho.at' hs
    rw [trimA_pr hs]
    exact hA.pr _ x (by omega) hx
end

end Go.Proofs.Ytdkpdpcecjcmcaa
