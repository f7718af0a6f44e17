/- The search's order of the states; the trimmed automaton (plain). What Trim's closure does: it numbers states. -/
import Derived.Test.YtdkpdpcecjcmcaaQRdA
import Derived.Test.YtdkpdpcecjcmcaaQRegP
namespace Go.Proofs.Ytdkpdpcecjcmcaa

def addI (l : List Int) (y : Int) : List Int := if y ∈ l then l else l ++ [y]
def addR (l row : List Int) : List Int := row.foldl addI l
def rowN (a : Au) (s : Int) : List Int := a.next.getD s.toNat []
def rowP (a : Au) (s : Int) : List Int := a.prio.getD s.toNat []
def srchF (a : Au) : Nat → Nat → List Int → List Int
  | 0, _, l => l
  | f + 1, n, l => if n < l.length then srchF a f (n + 1) (addR l (rowN a (l.getD n 0))) else l
def ordA (a : Au) : List Int := srchF a (a.next.length + 1) 0 [a.start]
def idxR (l row : List Int) : List Int := row.map fun y => (l.idxOf y : Int)
def trimA (a : Au) : Au := ⟨a.letters, 0, (ordA a).map fun s => idxR (ordA a) (rowN a s), (ordA a).map (rowP a)⟩
def trimF (a : Au) : Au := if validA a then trimA a else noAu

section
variable {l row : List Int} {y : Int} {a : Au} {k n : Nat}
theorem addI_mem {z : Int} : z ∈ addI l y ↔ z ∈ l ∨ z = y := by
  unfold addI
  by_cases h : y ∈ l
  · rw [if_pos h]; constructor
    · exact .inl
    · rintro (e | rfl)
      · exact e
      · exact h
  · rw [if_neg h]; simp
theorem addI_nd (h : l.Nodup) : (addI l y).Nodup := by
  unfold addI
  by_cases hy : y ∈ l
  · rw [if_pos hy]; exact h
  · rw [if_neg hy, List.nodup_append]
    exact ⟨h, by simp, fun a ha b hb e => hy (by rw [← List.mem_singleton.1 hb, ← e]; exact ha)⟩
theorem addI_pre (l : List Int) (y : Int) : ∃ e, addI l y = l ++ e := by
  unfold addI
  by_cases hy : y ∈ l
  · rw [if_pos hy]; exact ⟨[], by simp⟩
  · rw [if_neg hy]; exact ⟨[y], rfl⟩
theorem addR_snoc (l row : List Int) (y : Int) : addR l (row ++ [y]) = addI (addR l row) y := by simp [addR]
theorem addR_mem : ∀ {row l : List Int} {z : Int}, z ∈ addR l row ↔ z ∈ l ∨ z ∈ row
  | [], l, z => by simp [addR]
  | y :: row, l, z => by
    show z ∈ addR (addI l y) row ↔ _
    rw [addR_mem, addI_mem, List.mem_cons, or_assoc]
theorem addR_nd : ∀ {row l : List Int}, l.Nodup → (addR l row).Nodup
  | [], _, h => h
  | _ :: row, _, h => addR_nd (row := row) (addI_nd h)
theorem addR_pre : ∀ (row l : List Int), ∃ e, addR l row = l ++ e
  | [], l => ⟨[], by simp [addR]⟩
  | y :: row, l => by
    obtain ⟨e1, h1⟩ := addI_pre l y
    obtain ⟨e2, h2⟩ := addR_pre row (addI l y)
    exact ⟨e1 ++ e2, by show addR (addI l y) row = _; rw [h2, h1, List.append_assoc]⟩
theorem idx_pre {e : List Int} (h : y ∈ l) : (l ++ e).idxOf y = l.idxOf y := idxI_pre h
theorem idxR_pre {e : List Int} (h : ∀ y ∈ row, y ∈ l) : idxR (l ++ e) row = idxR l row := List.map_congr_left fun y hy => by rw [idxI_pre (h y hy)]
theorem getD_pre {e : List Int} {i : Nat} (h : i < l.length) : (l ++ e).getD i 0 = l.getD i 0 := by simp [List.getD, List.getElem?_append_left h]

theorem nd_le {α : Type} [DecidableEq α] {l l' : List α} (hn : l.Nodup) (h : ∀ x ∈ l, x ∈ l') : l.length ≤ l'.length := by
  induction l generalizing l' with
  | nil => exact Nat.zero_le _
  | cons x t ih =>
    have h2 := List.nodup_cons.1 hn
    have h1 := ih h2.2 (l' := l'.erase x) fun y hy => (List.mem_erase_of_ne (a := y) (b := x) (by rintro rfl; exact h2.1 hy)).2 (h y (List.mem_cons_of_mem _ hy))
    have h3 := List.length_erase_of_mem (h x List.mem_cons_self)
    have h4 : 0 < l'.length := List.length_pos_of_mem (h x List.mem_cons_self)
    rw [List.length_cons]
    omega
theorem getD_mem {l : List Int} {x : Nat} (h : x < l.length) : l.getD x 0 ∈ l := by rw [getD_lt _ _ _ h]; exact List.getElem_mem h
theorem getD_take {l : List Int} {x j : Nat} (hj : j < x) (h : j < l.length) : (l.take x).getD j 0 = l.getD j 0 := by
  rw [getD_lt _ _ _ (by rw [List.length_take]; omega), getD_lt _ _ _ h, List.getElem_take]
theorem mem_take_getD {l : List Int} {x j : Nat} (hj : j < x) (h : j < l.length) : l.getD j 0 ∈ l.take x := by
  rw [← getD_take hj h]; exact getD_mem (by rw [List.length_take]; omega)
/-- Where the search stands: the rows of the first n states have been gone through. -/
structure TrS (a : Au) (n : Nat) (l : List Int) : Prop where
  nd : l.Nodup
  rg : ∀ y ∈ l, 0 ≤ y ∧ y < a.next.length
  hd : l.getD 0 0 = a.start ∧ 0 < l.length
  nl : n ≤ l.length
  cl : ∀ i, i < n → ∀ y ∈ rowN a (l.getD i 0), y ∈ l
  fu : srchF a (a.next.length + 1 - n) n l = ordA a
theorem nd_int {N : Nat} (h : l.Nodup) (hr : ∀ y ∈ l, 0 ≤ y ∧ y < (N : Int)) : l.length ≤ N := by
  have h1 : (l.map Int.toNat).Nodup := by
    unfold List.Nodup
    rw [List.pairwise_map]
    refine h.imp_of_mem fun ha hb hne e => hne ?_
    have h1 := hr _ ha
    have h2 := hr _ hb
    omega
  have h2 : ∀ x ∈ l.map Int.toNat, x ∈ List.range N := fun x hx => by
    obtain ⟨y, hy, rfl⟩ := List.mem_map.1 hx
    have := hr y hy
    rw [List.mem_range]; omega
  have h4 := nd_le h1 h2
  simpa using h4
theorem TrS.len (h : TrS a n l) : l.length ≤ a.next.length := nd_int h.nd h.rg
theorem TrS.start (h : AuV a k) : TrS a 0 [a.start] := by
  refine ⟨by simp, fun y hy => by rw [List.mem_singleton.1 hy]; exact h.st, ⟨rfl, by simp⟩, Nat.zero_le _, fun i hi => absurd hi (Nat.not_lt_zero _), rfl⟩
theorem rowN_rg (h : AuV a k) {s : Int} (h0 : 0 ≤ s ∧ s < a.next.length) : (rowN a s).length = k ∧ ∀ y ∈ rowN a s, 0 ≤ y ∧ y < a.next.length := by
  have hs : s.toNat < a.next.length := by omega
  refine ⟨(h.ln _ hs).1, fun y hy => ?_⟩
  obtain ⟨j, hj, rfl⟩ := mem_getD hy
  exact h.nx _ j hs (by have := (h.ln _ hs).1; unfold rowN at hj; omega)
theorem TrS.at' (h : TrS a n l) {i : Nat} (hi : i < l.length) : 0 ≤ l.getD i 0 ∧ l.getD i 0 < a.next.length := by
  rw [getD_lt _ _ _ hi]; exact h.rg _ (List.getElem_mem hi)
theorem TrS.next (hA : AuV a k) (h : TrS a n l) (hn : n < l.length) : TrS a (n + 1) (addR l (rowN a (l.getD n 0))) := by
  obtain ⟨e, he⟩ := addR_pre (rowN a (l.getD n 0)) l
  have hr := rowN_rg hA (h.at' hn)
  have hlen := h.len
  refine ⟨addR_nd h.nd, fun y hy => (addR_mem.1 hy).elim (h.rg y) (hr.2 y), ?_, ?_, fun i hi y hy => ?_, ?_⟩
  · rw [he, getD_pre h.hd.2]
    exact ⟨h.hd.1, by have := h.hd.2; simp; omega⟩
  · rw [he]; simp; omega
  · rw [he, getD_pre (by omega)] at hy
    rw [addR_mem]
    by_cases e : i = n
    · subst e; exact .inr hy
    · exact .inl (h.cl i (by omega) y hy)
  · rw [← h.fu, show a.next.length + 1 - n = (a.next.length + 1 - (n + 1)) + 1 by omega]
    show _ = if n < l.length then _ else _
    rw [if_pos hn]
theorem TrS.done (h : TrS a l.length l) : ordA a = l := by
  have hlen := h.len
  rw [← h.fu, show a.next.length + 1 - l.length = (a.next.length - l.length) + 1 by omega]
  show (if l.length < l.length then _ else _) = l
  rw [if_neg (Nat.lt_irrefl _)]
theorem TrS.exA (hA : AuV a k) : ∀ (d n : Nat) (l : List Int), a.next.length - n ≤ d → TrS a n l → ∃ l, TrS a l.length l
  | 0, n, l, hd, h => by
    have h1 := h.len; have h2 := h.nl
    have : n = l.length := by omega
    subst this
    exact ⟨l, h⟩
  | d + 1, n, l, hd, h => by
    have h1 := h.len; have h2 := h.nl
    by_cases e : n < l.length
    · exact TrS.exA hA d (n + 1) _ (by omega) (h.next hA e)
    · have : n = l.length := by omega
      subst this
      exact ⟨l, h⟩
/-- The whole search. -/
theorem TrS.ord (hA : AuV a k) : TrS a (ordA a).length (ordA a) := by
  obtain ⟨l, h⟩ := TrS.exA hA _ _ _ (Nat.le_refl _) (TrS.start hA)
  rw [h.done]; exact h
/-- Row n of the trimmed automaton, of the order so far. -/
def nxsA (a : Au) (n : Nat) (l : List Int) : List (List Int) := (l.take n).map fun s => idxR l (rowN a s)
theorem take_getD {n : Nat} (hn : n < l.length) : l.take (n + 1) = l.take n ++ [l.getD n 0] := by rw [List.take_succ_eq_append_getElem hn, getD_lt _ _ _ hn]
theorem nxsA_next (h : TrS a n l) (hn : n < l.length) : nxsA a (n + 1) (addR l (rowN a (l.getD n 0))) = nxsA a n l ++ [idxR (addR l (rowN a (l.getD n 0))) (rowN a (l.getD n 0))] := by
  obtain ⟨e, he⟩ := addR_pre (rowN a (l.getD n 0)) l
  unfold nxsA
  have ht : (addR l (rowN a (l.getD n 0))).take (n + 1) = l.take n ++ [l.getD n 0] := by
    rw [he, List.take_append_of_le_length (by omega), take_getD hn]
  rw [ht, List.map_append]
  congr 1
  refine List.map_congr_left fun s hs => ?_
  rw [he]
  refine idxR_pre fun y hy => ?_
  obtain ⟨i, hi, rfl⟩ := List.getElem_of_mem hs
  rw [List.length_take] at hi
  rw [List.getElem_take, ← getD_lt l 0 i (by omega)] at hy
  exact h.cl i (by omega) y hy
def prsA (a : Au) (n : Nat) (l : List Int) : List (List Int) := (l.take n).map (rowP a)
theorem prsA_next (hn : n < l.length) (row : List Int) : prsA a (n + 1) (addR l row) = prsA a n l ++ [rowP a (l.getD n 0)] := by
  obtain ⟨e, he⟩ := addR_pre row l
  unfold prsA
  rw [he, List.take_append_of_le_length (by omega), take_getD hn, List.map_append]; rfl
theorem trimA_of (h : TrS a l.length l) : trimA a = ⟨a.letters, 0, nxsA a l.length l, prsA a l.length l⟩ := by
  unfold trimA nxsA prsA
  rw [h.done, List.take_length]
theorem nxsA_len (h : n ≤ l.length) : (nxsA a n l).length = n := by unfold nxsA; rw [List.length_map, List.length_take]; omega
theorem prsA_len (h : n ≤ l.length) : (prsA a n l).length = n := by unfold prsA; rw [List.length_map, List.length_take]; omega
theorem idxR_at {l row : List Int} {x : Nat} (h : x < row.length) : (idxR l row).getD x 0 = (l.idxOf (row.getD x 0) : Int) := by
  rw [getD_lt _ _ _ (by unfold idxR; rw [List.length_map]; exact h), getD_lt _ _ _ h]
  simp [idxR]
theorem trimA_nx {s : Nat} (hs : s < (ordA a).length) : (trimA a).next.getD s [] = idxR (ordA a) (rowN a ((ordA a).getD s 0)) := by
  rw [getD_lt _ _ _ (by simpa [trimA] using hs), getD_lt _ _ _ hs]; simp [trimA]
theorem trimA_pr {s : Nat} (hs : s < (ordA a).length) : (trimA a).prio.getD s [] = rowP a ((ordA a).getD s 0) := by
  rw [getD_lt _ _ _ (by simpa [trimA] using hs), getD_lt _ _ _ hs]; simp [trimA]
theorem AuV.trim (hA : AuV a k) : AuV (trimA a) k := by
  have ho := TrS.ord hA
  have hl : (trimA a).next.length = (ordA a).length := by simp [trimA]
  have hp : (trimA a).prio.length = (ordA a).length := by simp [trimA]
  have h0 := ho.hd.2
  have h1 := ho.len
  have hn1 := hA.n1
  refine ⟨hA.L, hA.k1, by omega, by omega, by show (0 : Int) ≤ 0 ∧ (0 : Int) < _; omega, fun s hs => ?_, fun s x hs hx => ?_, fun s x hs hx => ?_⟩
  · rw [hl] at hs
    have h2 := ho.at' hs
    rw [trimA_nx hs, trimA_pr hs]
    exact ⟨by unfold idxR; rw [List.length_map]; exact (rowN_rg hA h2).1, (hA.ln _ (by omega)).2⟩
  · rw [hl] at hs
    have h2 := ho.at' hs
    have h3 := (rowN_rg hA h2).1
    rw [trimA_nx hs, hl, idxR_at (by omega)]
    have h5 := idxI_lt (ho.cl s hs _ (getD_mem (x := x) (by omega)))
    omega
  · rw [hl] at hs
    have h2 := ho.at' hs
    rw [trimA_pr hs]
    exact hA.pr _ x (by omega) hx
end

end Go.Proofs.Ytdkpdpcecjcmcaa

namespace Go.Proofs.Ytdkpdpcecjcmcaa
open Go.RowKit

/-- The numbers: the map mb in the box zm, the states in the box zs. -/
structure TS (W : World) (C zm zs mb : Nat) (vs : Value) (l : List Int) : Prop where
  m : W.heap[zm]? = some (.cells #[.map (some mb)] 42 (0, 0))
  s : W.heap[zs]? = some (.cells #[vs] 29 (0, 0))
  k : NumI W mb l
  o : OI W C vs l
  c : C ≤ W.heap.size ∧ zm < C ∧ zs < C ∧ mb < C
  ne : zm ≠ zs ∧ zm ≠ mb ∧ zs ≠ mb
def hotTS (zs mb : Nat) (vs : Value) (q : Nat) : Prop := q = mb ∨ q = zs ∨ vs.ownBlock = some q
section
variable {W W1 : World} {C zm zs mb : Nat} {vs : Value} {l : List Int}
theorem TS.only {S : Nat → Prop} (h : TS W C zm zs mb vs l) (ho : Only S W W1) (hS : ∀ q, S q → q ≠ zm ∧ q ≠ zs ∧ q ≠ mb ∧ vs.ownBlock ≠ some q) : TS W1 C zm zs mb vs l := by
  have h1 := h.c
  refine ⟨(ho.block zm (by omega) fun e => (hS _ e).1 rfl).trans h.m, (ho.block zs (by omega) fun e => (hS _ e).2.1 rfl).trans h.s, ?_, h.o.only ho fun q e k => (hS q k).2.2.2 e, ⟨Nat.le_trans h1.1 ho.size, h1.2⟩, h.ne⟩
  obtain ⟨D, ⟨es, c, k1, k2⟩, k3⟩ := h.k
  exact ⟨D, ⟨es, c, (ho.block mb (by omega) fun e => (hS _ e).2.2.1 rfl).trans k1, k2⟩, k3⟩
theorem TS.below (h : TS W C zm zs mb vs l) (hb : Below W.heap.size W W1) : TS W1 C zm zs mb vs l := h.only (S := fun _ => False) (Only.of_below hb) fun _ e => e.elim
end
def NumOut (W : World) (C zm zs mb : Nat) (vs : Value) (l : List Int) (y : Int) (e : Ending) (W' : World) : Prop :=
  e = .returned (.int .i64 ((addI l y).idxOf y : Int)) ∧ ∃ vs', TS W' C zm zs mb vs' (addI l y) ∧ Only (hotTS zs mb vs) W W' ∧ Moved W vs vs'

set_option maxRecDepth 100000 in
set_option maxHeartbeats 8000000 in
theorem trimNum_c (W : World) (C zm zs mb : Nat) (vs : Value) (l : List Int) (y : Int) (hT : TS W C zm zs mb vs l) (hy : I64 y) (hl : l.length ≤ 3000) :
    Calls Try.prog 33 #[.int .i64 y, .pointer (some ⟨zm, 0, none⟩), .pointer (some ⟨zs, 0, none⟩)] W (NumOut W C zm zs mb vs l y) := by
  have HT := Lib.hid hT
  obtain ⟨hg1, hg2⟩ := hT.k.get hy
  have c0 := cell_of_row _ _ 0 _ _ _ hT.m
  have c1 := cell_of_row _ _ 0 _ _ _ hT.s
  clear hT
  by_cases hm : y ∈ l
  · have hrun := hg1 hm
    have HF : Hid (addI l y = l) := by show _ = _; unfold addI; rw [if_pos hm]
    clear hg1 hg2 hm
    go_enter Try.func33, Try.ntmps33
    go_wp2
    go_ret
    exact ⟨by rw [HF.out]; rfl, vs, by rw [HF.out]; exact HT.out, Only.refl _ _, Moved.refl _ _⟩
  · obtain ⟨c, hrun⟩ := hg2 hm
    have HF : Hid (addI l y = l ++ [y]) := by show _ = _; unfold addI; rw [if_neg hm]
    have HIx : Hid (((addI l y).idxOf y : Int) = l.length) := by show _ = _; rw [HF.out, idxI_new hm]
    obtain ⟨a1, cs, hvs⟩ := HT.out.o.slice
    subst hvs
    obtain ⟨W2, hup, hK2, hG2⟩ := HT.out.k.upd hy hm hl
    have hc := HT.out.c
    have hO2 : OI W2 C (.slice a1 l.length cs) l := HT.out.o.only (Only.of_grown hG2) fun q e k => by
      have h1 := HT.out.o.ge q e
      have h2 : mb = q := Option.some.inj k
      omega
    have hs2 : W2.heap[zs]? = some (.cells #[.slice a1 l.length cs] 29 (0, 0)) := ((Only.of_grown hG2).block zs (by omega) fun e => HT.out.ne.2.2 (Option.some.inj e).symm).trans HT.out.s
    have hm2 : W2.heap[zm]? = some (.cells #[.map (some mb)] 42 (0, 0)) := ((Only.of_grown hG2).block zm (by omega) fun e => HT.out.ne.2.1 (Option.some.inj e).symm).trans HT.out.m
    have d1 := cell_of_row _ _ 0 _ _ _ hs2
    have hCW : C ≤ W2.heap.size := Nat.le_trans hc.1 hG2.size
    have HK2 := Lib.hid hK2
    have HG2 := Lib.hid hG2
    have HS2 := Lib.hid hs2
    have HM2 := Lib.hid hm2
    clear hg1 hg2 hm hK2 hG2 hs2 hm2
    go_enter Try.func33, Try.ntmps33
    go_wp2_with (at_builtin; refine app_int rfl _ _ y rfl C _ _ hO2 rfl _ (by simp) rfl (by omega) hCW ?_; intro v' w' hown' hg hmv; obtain ⟨ao', cap', hv'⟩ := hown'.slice; rw [List.length_append, List.length_singleton] at hv'; subst hv'; have HO' := Lib.hid hown'; have HG := Lib.hid hg; have HMV := Lib.hid hmv; have hr' := ((Only.of_grown hg).block zs (by have := HG2.out.size; omega) (fun e => by have h1 := hO2.ge zs e; omega)).trans HS2.out; have HR' := Lib.hid hr'; have k2 := cell_of_row _ _ 0 _ _ _ hr'; have f2 := frozen_of_row _ _ 0 _ _ hr'; clear hown' hg hmv hr')
    have HE := HIx.out
    clear d1 k2 f2 hup hrun c0 c1
    go_ret
    have hs0 := HG2.out.size
    have h1 : Only (fun q => q = zs ∨ (Value.slice a1 l.length cs).ownBlock = some q) W2 (w'.setCell ⟨zs, 0, none⟩ (.slice ao' (l.length + 1) cap')) := ((Only.of_grown HG.out).mono fun q _ e => .inr e).trans (Only.set _ _ _ (.inl rfl))
    refine ⟨by rw [HE]; rfl, .slice ao' (l.length + 1) cap', ⟨?_, ?_, ?_, ?_, ⟨Nat.le_trans hCW h1.size, hc.2⟩, HT.out.ne⟩, ?_, ?_⟩
    · refine (h1.block zm (by omega) fun e => ?_).trans HM2.out
      rcases e with e | e
      · exact HT.out.ne.1 e
      · have := hO2.ge zm e; omega
    · exact one_set HR'.out
    · rw [HF.out]
      refine HK2.out.blk (h1.block mb (by omega) fun e => ?_)
      rcases e with e | e
      · exact HT.out.ne.2.2 e.symm
      · have := hO2.ge mb e; omega
    · rw [HF.out]
      exact HO'.out.only (Only.set (S := fun q => q = zs) _ _ _ rfl) fun q e k => by have h3 := HO'.out.ge q e; omega
    · refine ((Only.of_grown HG2.out).mono fun q _ e => .inl (Option.some.inj e).symm).trans (h1.mono fun q _ e => ?_)
      exact e.elim (fun e => .inr (.inl e)) fun e => .inr (.inr e)
    · intro g e
      rcases HMV.out g e with k | k
      · exact .inl k
      · exact .inr (by omega)

end Go.Proofs.Ytdkpdpcecjcmcaa
