/- What split makes: rows of moves that lie apart, a map that numbers the parts; and what the parts say of components (plain). -/
import Derived.Test.YtdkpdpcecjcmcaaQRd6
import Derived.Test.YtdkpdpcecjcmcaaQRegP
namespace Go.Proofs.Ytdkpdpcecjcmcaa
open Go.RowKit

/-! Plain: moves grouped by the parts of their states. -/
structure Grp (tg : Mv → Nat) (l : List Mv) (comps : List (List Mv)) (os : List Mv) : Prop where
  ot : ∀ m, m ∈ os ↔ m ∈ l ∧ ¬ OnC tg (· ∈ l) m
  cs : ∀ c ∈ comps, ∃ m0, OnC tg (· ∈ l) m0 ∧ ∀ m, m ∈ c ↔ InC tg (· ∈ l) m0 m
  cv : ∀ m, OnC tg (· ∈ l) m → ∃ c ∈ comps, m ∈ c
  dj : comps.Pairwise fun c d => ∀ m ∈ c, m ∉ d
  nd : (∀ c ∈ comps, c.Sublist l) ∧ os.Sublist l
/-- Some moves have been gone through. -/
structure GInv (pt : Nat → Nat) (tg : Mv → Nat) (l : List Mv) (ks : List Nat) (comps : List (List Mv)) (os : List Mv) : Prop where
  ot : os = l.filter fun m => decide (pt (tg m) ≠ pt m.1)
  nd : ks.Nodup
  ln : comps.length = ks.length
  cs : ∀ j, j < ks.length → comps.getD j [] = l.filter fun m => decide (pt (tg m) = pt m.1) && decide (pt m.1 = ks.getD j 0)
  cv : ∀ m ∈ l, pt (tg m) = pt m.1 → pt m.1 ∈ ks
  ne : ∀ j, j < ks.length → comps.getD j [] ≠ []
section
variable {pt : Nat → Nat} {tg : Mv → Nat} {l : List Mv} {ks : List Nat} {comps : List (List Mv)} {os : List Mv} {m : Mv}
theorem GInv.start : GInv pt tg [] [] [] [] := ⟨rfl, List.nodup_nil, rfl, fun j hj => absurd hj (by simp), fun m hm => absurd hm (by simp), fun j hj => absurd hj (by simp)⟩
theorem GInv.other (h : GInv pt tg l ks comps os) (hm : pt (tg m) ≠ pt m.1) : GInv pt tg (l ++ [m]) ks comps (os ++ [m]) := by
  refine ⟨?_, h.nd, h.ln, fun j hj => ?_, fun x hx e => ?_, h.ne⟩
  · rw [List.filter_append, ← h.ot]
    simp [hm]
  · rw [List.filter_append, h.cs j hj]
    simp [hm]
  · rcases List.mem_append.1 hx with k | k
    · exact h.cv x k e
    · rw [List.mem_singleton.1 k] at e
      exact absurd e hm
theorem getD_set_eqL {l : List (List Mv)} {j : Nat} (h : j < l.length) (x : List Mv) : (l.set j x).getD j [] = x := by simp [List.getD, h]
theorem getD_set_neL {l : List (List Mv)} {i j : Nat} (h : i ≠ j) (x : List Mv) : (l.set i x).getD j [] = l.getD j [] := by simp [List.getD, h]
theorem GInv.old (h : GInv pt tg l ks comps os) (hm : pt (tg m) = pt m.1) {k : Nat} (hk : k < ks.length) (e : ks.getD k 0 = pt m.1) : GInv pt tg (l ++ [m]) ks (comps.set k (comps.getD k [] ++ [m])) os := by
  refine ⟨?_, h.nd, by rw [List.length_set, h.ln], fun j hj => ?_, fun x hx ex => ?_, fun j hj => ?_⟩
  · rw [List.filter_append, ← h.ot]
    simp [hm]
  · rw [List.filter_append]
    by_cases ej : k = j
    · subst ej
      rw [getD_set_eqL (by rw [h.ln]; exact hk), h.cs k hk]
      have e' : ks[k]?.getD 0 = pt m.1 := e
      simp [hm, e']
    · rw [getD_set_neL ej, h.cs j hj]
      have hne : ¬ pt m.1 = ks.getD j 0 := fun k2 => ej (by
        rw [← e, getD_lt _ _ _ hk, getD_lt _ _ _ hj] at k2
        exact (List.getElem_inj h.nd).1 k2)
      have hne' : ¬ pt m.1 = ks[j]?.getD 0 := hne
      simp [hm, hne']
  · rcases List.mem_append.1 hx with k2 | k2
    · exact h.cv x k2 ex
    · rw [List.mem_singleton.1 k2, ← e, getD_lt _ _ _ hk]
      exact List.getElem_mem hk
  · by_cases ej : k = j
    · subst ej
      rw [getD_set_eqL (by rw [h.ln]; exact hk)]
      simp
    · rw [getD_set_neL ej]
      exact h.ne j hj
theorem GInv.new (h : GInv pt tg l ks comps os) (hm : pt (tg m) = pt m.1) (hn : pt m.1 ∉ ks) : GInv pt tg (l ++ [m]) (ks ++ [pt m.1]) ((comps ++ [[]]).set comps.length [m]) os := by
  have hf : l.filter (fun x => decide (pt (tg x) = pt x.1) && decide (pt x.1 = pt m.1)) = [] := by
    rw [List.filter_eq_nil_iff]
    intro x hx
    simp only [Bool.and_eq_true, decide_eq_true_eq, not_and]
    intro h1 h2
    exact hn (h2 ▸ h.cv x hx h1)
  have e0 : (comps ++ [[]]).set comps.length [m] = comps ++ [[m]] := by
    rw [List.set_append_right _ _ (Nat.le_refl _)]
    simp
  rw [e0]
  refine ⟨?_, ?_, by rw [List.length_append, List.length_append, h.ln]; rfl, fun j hj => ?_, fun x hx ex => ?_, fun j hj => ?_⟩
  · rw [List.filter_append, ← h.ot]
    simp [hm]
  · rw [List.nodup_append]
    exact ⟨h.nd, by simp, fun a ha b hb => by rw [List.mem_singleton.1 hb]; rintro rfl; exact hn ha⟩
  · rw [List.length_append, List.length_singleton] at hj
    rw [List.filter_append]
    by_cases ej : j < ks.length
    · rw [show (comps ++ [[m]]).getD j [] = comps.getD j [] by simp [List.getD, List.getElem?_append_left (show j < comps.length by rw [h.ln]; exact ej)], show (ks ++ [pt m.1]).getD j 0 = ks.getD j 0 by simp [List.getD, List.getElem?_append_left ej], h.cs j ej]
      have hne : ¬ pt m.1 = ks.getD j 0 := fun k2 => hn (by rw [k2, getD_lt _ _ _ ej]; exact List.getElem_mem ej)
      have hne' : ¬ pt m.1 = ks[j]?.getD 0 := hne
      simp [hm, hne']
    · obtain rfl : j = ks.length := by omega
      rw [show (ks ++ [pt m.1]).getD ks.length 0 = pt m.1 by simp [List.getD], hf, ← h.ln, show (comps ++ [[m]]).getD comps.length [] = [m] by simp [List.getD]]
      simp [hm]
  · rcases List.mem_append.1 hx with k2 | k2
    · exact List.mem_append_left _ (h.cv x k2 ex)
    · rw [List.mem_singleton.1 k2]; simp
  · rw [List.length_append, List.length_singleton] at hj
    by_cases ej : j < ks.length
    · rw [show (comps ++ [[m]]).getD j [] = comps.getD j [] by simp [List.getD, List.getElem?_append_left (show j < comps.length by rw [h.ln]; exact ej)]]
      exact h.ne j ej
    · obtain rfl : j = ks.length := by omega
      rw [← h.ln, show (comps ++ [[m]]).getD comps.length [] = [m] by simp [List.getD]]
      simp
/-- What it says when the parts are those of the set. -/
theorem GInv.grp (h : GInv pt tg l ks comps os) (hp : ∀ m ∈ l, ∀ m' ∈ l, (pt m.1 = pt m'.1 ↔ Rch (EdS tg (· ∈ l)) m.1 m'.1 ∧ Rch (EdS tg (· ∈ l)) m'.1 m.1) ∧ (pt (tg m) = pt m'.1 ↔ Rch (EdS tg (· ∈ l)) (tg m) m'.1 ∧ Rch (EdS tg (· ∈ l)) m'.1 (tg m))) : Grp tg l comps os := by
  have hon : ∀ m, m ∈ l → (OnC tg (· ∈ l) m ↔ pt (tg m) = pt m.1) := fun m hm => by
    rw [(hp m hm m hm).2]
    exact ⟨fun k => ⟨k.2, Rch.one (ed_of (S := (· ∈ l)) hm)⟩, fun k => ⟨hm, k.1⟩⟩
  have hin : ∀ m0 m, m0 ∈ l → pt (tg m0) = pt m0.1 → ((m ∈ l ∧ pt (tg m) = pt m.1 ∧ pt m.1 = pt m0.1) ↔ InC tg (· ∈ l) m0 m) := fun m0 m h0 e0 => by
    constructor
    · rintro ⟨k1, k2, k3⟩
      have a := ((hp m k1 m0 h0).1.1 k3)
      have b := ((hp m k1 m0 h0).2.1 (k2.trans k3))
      exact ⟨k1, a.2, b.1⟩
    · rintro ⟨k1, k2, k3⟩
      have a : pt m.1 = pt m0.1 := (hp m k1 m0 h0).1.2 ⟨(Rch.one (ed_of (S := (· ∈ l)) k1)).trans k3, k2⟩
      have b : pt (tg m) = pt m0.1 := (hp m k1 m0 h0).2.2 ⟨k3, k2.trans (Rch.one (ed_of (S := (· ∈ l)) k1))⟩
      exact ⟨k1, b.trans a.symm, a⟩
  have hmc : ∀ j, j < ks.length → ∀ m, m ∈ comps.getD j [] ↔ m ∈ l ∧ pt (tg m) = pt m.1 ∧ pt m.1 = ks.getD j 0 := fun j hj m => by
    rw [h.cs j hj, List.mem_filter]
    simp
  have hget : ∀ c ∈ comps, ∃ j, j < ks.length ∧ comps.getD j [] = c := fun c hc => by
    obtain ⟨j, hj, rfl⟩ := List.getElem_of_mem hc
    exact ⟨j, by rw [← h.ln]; exact hj, by rw [getD_lt _ _ _ hj]⟩
  refine ⟨fun m => ?_, fun c hc => ?_, fun m hm => ?_, ?_, fun c hc => ?_, by rw [h.ot]; exact List.filter_sublist⟩
  · rw [h.ot, List.mem_filter]
    simp only [decide_eq_true_eq]
    exact ⟨fun k => ⟨k.1, fun k2 => k.2 ((hon m k.1).1 k2)⟩, fun k => ⟨k.1, fun k2 => k.2 ((hon m k.1).2 k2)⟩⟩
  · obtain ⟨j, hj, rfl⟩ := hget c hc
    obtain ⟨m0, hm0⟩ := List.exists_mem_of_ne_nil _ (h.ne j hj)
    obtain ⟨k1, k2, k3⟩ := (hmc j hj m0).1 hm0
    refine ⟨m0, (hon m0 k1).2 k2, fun m => ?_⟩
    rw [← hin m0 m k1 k2, hmc j hj, k3]
  · have h1 := (hon m hm.1).1 hm
    obtain ⟨j, hj, e⟩ := List.getElem_of_mem (h.cv m hm.1 h1)
    refine ⟨comps.getD j [], ?_, (hmc j hj m).2 ⟨hm.1, h1, by rw [getD_lt _ _ _ hj, e]⟩⟩
    rw [getD_lt _ _ _ (by rw [h.ln]; exact hj)]
    exact List.getElem_mem _
  · rw [List.pairwise_iff_getElem]
    intro i j hi hj hij m hm hm2
    have hi' : i < ks.length := by rw [← h.ln]; exact hi
    have hj' : j < ks.length := by rw [← h.ln]; exact hj
    rw [← getD_lt _ [] _ hi] at hm
    rw [← getD_lt _ [] _ hj] at hm2
    have a := ((hmc i hi' m).1 hm).2.2
    have b := ((hmc j hj' m).1 hm2).2.2
    rw [a, getD_lt _ _ _ hi', getD_lt _ _ _ hj'] at b
    have := (List.getElem_inj h.nd).1 b
    omega
  · obtain ⟨j, hj, rfl⟩ := hget c hc
    rw [h.cs j hj]
    exact List.filter_sublist
end

/-! Memory. -/
theorem Sep.setA {l : List Value} (h : Sep l) {w : World} {i : Nat} {v v' : Value} (hi : l[i]? = some v) (hm : Moved w v v') (hlt : ∀ u ∈ l, ∀ g, u.ownBlock = some g → g < w.heap.size) : Sep (l.set i v') := by
  refine List.pairwise_iff_getElem.2 fun a b ha hb hab => ?_
  rw [List.length_set] at ha hb
  rw [List.getElem_set, List.getElem_set]
  have hget : ∀ a (ha : a < l.length), l[a]? = some l[a] := fun a ha => by simp
  split
  · rename_i e
    subst e
    rw [if_neg (by omega)]
    exact ((h.get (by omega) (hget b hb) hi).moved hm (hlt _ (List.getElem_mem hb))).symm
  · split
    · rename_i e
      subst e
      exact (h.get (by omega) (hget a ha) hi).moved hm (hlt _ (List.getElem_mem ha))
    · exact h.get (by omega) (hget a ha) (hget b hb)
def boxB (z : Nat) : Value := .slice (some ⟨z, 0, none⟩) 0 0
theorem boxB_own (z : Nat) : (boxB z).ownBlock = some z := rfl
theorem NumI.blk {w w' : World} {b : Nat} {l : List Int} (h : NumI w b l) (e : w'.heap[b]? = w.heap[b]?) : NumI w' b l := by
  obtain ⟨D, ⟨es, c, h1, h2⟩, h3⟩ := h
  exact ⟨D, ⟨es, c, e.trans h1, h2⟩, h3⟩
/-- The rows of split. -/
structure CB (w : World) (B : Nat) (vc : Value) (vals : List Value) (comps : List (List Mv)) (vo : Value) (os : List Mv) (mb : Nat) (ks : List Nat) : Prop where
  r : w.ownsRow B 61 1 vc comps.length vals
  e : ∀ j, j < comps.length → OM w B (vals.getD j undef) (comps.getD j [])
  o : OM w B vo os
  m : NumI w mb (castL ks)
  sep : Sep (boxB mb :: vc :: vo :: vals)
  ge : B ≤ mb
section
variable {w w' : World} {B mb gc cap : Nat} {vc vo vc' vo' : Value} {vals : List Value} {comps : List (List Mv)} {os os' : List Mv} {ks : List Nat}
theorem CB.vl (h : CB w B vc vals comps vo os mb ks) : vals.length = comps.length := by have := h.r.1; simpa using this
theorem CB.lts (h : CB w B vc vals comps vo os mb ks) : ∀ u ∈ boxB mb :: vc :: vo :: vals, ∀ g, u.ownBlock = some g → g < w.heap.size := by
  intro u hu g hg
  simp only [List.mem_cons] at hu
  rcases hu with rfl | rfl | rfl | hu
  · cases hg; exact h.m.lt
  · exact (World.ownsRow.lt h.r g hg).2
  · exact h.o.lt' g hg
  · obtain ⟨j, hj, rfl⟩ := List.getElem_of_mem hu
    have := (h.e j (by rw [← h.vl]; exact hj)).lt' g
    rw [getD_lt _ _ _ hj] at this
    exact this hg
theorem CB.ges (h : CB w B vc vals comps vo os mb ks) : ∀ u ∈ boxB mb :: vc :: vo :: vals, ∀ g, u.ownBlock = some g → B ≤ g := by
  intro u hu g hg
  simp only [List.mem_cons] at hu
  rcases hu with rfl | rfl | rfl | hu
  · cases hg; exact h.ge
  · exact (World.ownsRow.lt h.r g hg).1
  · exact h.o.ge g hg
  · obtain ⟨j, hj, rfl⟩ := List.getElem_of_mem hu
    have := (h.e j (by rw [← h.vl]; exact hj)).ge g
    rw [getD_lt _ _ _ hj] at this
    exact this hg
theorem CB.at3 (h : CB w B vc vals comps vo os mb ks) {j : Nat} (hj : j < comps.length) : (boxB mb :: vc :: vo :: vals)[j + 3]? = some (vals.getD j undef) := by
  have hl : j < vals.length := by rw [h.vl]; exact hj
  simp [List.getD, hl]
/-- What is written lies elsewhere. -/
theorem CB.only {S : Nat → Prop} (h : CB w B vc vals comps vo os mb ks) (ho : Only S w w') (hS : ∀ q, B ≤ q → q < w.heap.size → ¬ S q) : CB w' B vc vals comps vo os mb ks := by
  have hk : ∀ u ∈ boxB mb :: vc :: vo :: vals, ∀ g, u.ownBlock = some g → ¬ S g := fun u hu g hg => hS g (h.ges u hu g hg) (h.lts u hu g hg)
  refine ⟨ownsRow_only h.r ho (hk vc (by simp)), fun j hj => (h.e j hj).only ho ?_, h.o.only ho (hk vo (by simp)), ?_, h.sep, h.ge⟩
  · exact hk _ (List.mem_of_getElem? (h.at3 hj))
  · exact h.m.blk (ho.block _ h.m.lt (hS mb h.ge h.m.lt))
theorem CB.below (h : CB w B vc vals comps vo os mb ks) (hb : Below w.heap.size w w') : CB w' B vc vals comps vo os mb ks := h.only (S := fun _ => False) (Only.of_below hb) fun _ _ _ => id
/-- One more of the others. -/
theorem CB.oth (h : CB w B vc vals comps vo os mb ks) {m : Mv} (h1 : OM w' B vo' (os ++ [m])) (hg : w.grownBy w' vo.ownBlock) (hm : Moved w vo vo') : CB w' B vc vals comps vo' (os ++ [m]) mb ks := by
  have ho : Only (fun q => vo.ownBlock = some q) w w' := Only.of_grown hg
  have ha : ∀ {i : Nat} {u : Value}, i ≠ 2 → (boxB mb :: vc :: vo :: vals)[i]? = some u → ∀ q, u.ownBlock = some q → ¬ vo.ownBlock = some q := fun {i u} hi hu q hq => h.sep.get hi hu (show (boxB mb :: vc :: vo :: vals)[2]? = some vo from rfl) q hq
  refine ⟨ownsRow_only h.r ho (ha (i := 1) (by decide) rfl), fun j hj => (h.e j hj).only ho (ha (i := j + 3) (by omega) (h.at3 hj)), h1, h.m.blk (ho.block _ h.m.lt (ha (i := 0) (by decide) rfl mb rfl)), ?_, h.ge⟩
  exact h.sep.setA (i := 2) rfl hm h.lts
/-- One more part. -/
theorem CB.key (h : CB w B vc vals comps vo os mb ks) {c : Nat} (h1 : NumI w' mb (castL (ks ++ [c]))) (hg : w.grownBy w' (some mb)) : CB w' B vc vals comps vo os mb (ks ++ [c]) := by
  have ho : Only (fun q => q = mb) w w' := (Only.of_grown hg).mono fun q _ e => (Option.some.inj e).symm
  have ha : ∀ {i : Nat} {u : Value}, i ≠ 0 → (boxB mb :: vc :: vo :: vals)[i]? = some u → ∀ q, u.ownBlock = some q → ¬ q = mb := fun {i u} hi hu q hq e => h.sep.get hi hu (show (boxB mb :: vc :: vo :: vals)[0]? = some (boxB mb) from rfl) q hq (by rw [e]; rfl)
  exact ⟨ownsRow_only h.r ho (ha (i := 1) (by decide) rfl), fun j hj => (h.e j hj).only ho (ha (i := j + 3) (by omega) (h.at3 hj)), h.o.only ho (ha (i := 2) (by decide) rfl), h1, h.sep, h.ge⟩
/-- An empty component. -/
theorem CB.comp (h : CB w B vc vals comps vo os mb ks) (h1 : w'.ownsRow B 61 1 vc' (comps.length + 1) (vals ++ [.slice none 0 0])) (hg : w.grownBy w' vc.ownBlock) (hm : Moved w vc vc') : CB w' B vc' (vals ++ [.slice none 0 0]) (comps ++ [[]]) vo os mb ks := by
  have ho : Only (fun q => vc.ownBlock = some q) w w' := Only.of_grown hg
  have ha : ∀ {i : Nat} {u : Value}, i ≠ 1 → (boxB mb :: vc :: vo :: vals)[i]? = some u → ∀ q, u.ownBlock = some q → ¬ vc.ownBlock = some q := fun {i u} hi hu q hq => h.sep.get hi hu (show (boxB mb :: vc :: vo :: vals)[1]? = some vc from rfl) q hq
  have hvl := h.vl
  refine ⟨by rw [List.length_append, List.length_singleton]; exact h1, fun j hj => ?_, h.o.only ho (ha (i := 2) (by decide) rfl), h.m.blk (ho.block _ h.m.lt (ha (i := 0) (by decide) rfl mb rfl)), ?_, h.ge⟩
  · rw [List.length_append, List.length_singleton] at hj
    by_cases e : j < comps.length
    · rw [show (vals ++ [Value.slice none 0 0]).getD j undef = vals.getD j undef by simp [List.getD, List.getElem?_append_left (show j < vals.length by omega)], show (comps ++ [[]] : List (List Mv)).getD j [] = comps.getD j [] by simp [List.getD, List.getElem?_append_left e]]
      exact (h.e j e).only ho (ha (i := j + 3) (by omega) (h.at3 e))
    · obtain rfl : j = comps.length := by omega
      rw [show (vals ++ [Value.slice none 0 0]).getD comps.length undef = .slice none 0 0 by simp [List.getD, ← hvl], show (comps ++ [[]] : List (List Mv)).getD comps.length [] = [] by simp [List.getD]]
      exact OM_nil _ _
  · have k := h.sep.setA (i := 1) rfl hm h.lts
    have k2 : Sep ((boxB mb :: vc' :: vo :: vals) ++ [.slice none 0 0]) := List.pairwise_append.2 ⟨k, by simp, fun a _ b hb => by rw [List.mem_singleton.1 hb]; exact (apart_none rfl).symm⟩
    exact k2
theorem CB.gcne (h : CB w B (.slice (some ⟨gc, 0, none⟩) comps.length cap) vals comps vo os mb ks) {j : Nat} (hj : j < comps.length) : ∀ q, (Value.slice (some ⟨gc, 0, none⟩) comps.length cap).ownBlock = some q → ¬ (vals.getD j undef).ownBlock = some q :=
  h.sep.get (i := 1) (j := j + 3) (by omega) rfl (h.at3 hj)
/-- A component gets one more move. -/
theorem CB.inner (h : CB w B (.slice (some ⟨gc, 0, none⟩) comps.length cap) vals comps vo os mb ks) {j : Nat} (hj : j < comps.length) {m : Mv} {v' : Value} (h1 : OM w' B v' (comps.getD j [] ++ [m])) (hg : w.grownBy w' (vals.getD j undef).ownBlock) (hm : Moved w (vals.getD j undef) v') :
    CB (w'.setCell ⟨gc, j, none⟩ v') B (.slice (some ⟨gc, 0, none⟩) comps.length cap) (vals.set j v') (comps.set j (comps.getD j [] ++ [m])) vo os mb ks := by
  have ho : Only (fun q => (vals.getD j undef).ownBlock = some q) w w' := Only.of_grown hg
  have ha : ∀ {i : Nat} {u : Value}, i ≠ j + 3 → (boxB mb :: .slice (some ⟨gc, 0, none⟩) comps.length cap :: vo :: vals)[i]? = some u → ∀ q, u.ownBlock = some q → ¬ (vals.getD j undef).ownBlock = some q := fun {i u} hi hu q hq => h.sep.get hi hu (h.at3 hj) q hq
  have ho2 : Only (fun q => q = gc) w' (w'.setCell ⟨gc, j, none⟩ v') := Only.set _ _ _ rfl
  have hc : ∀ {i : Nat} {u : Value}, i ≠ 1 → (boxB mb :: .slice (some ⟨gc, 0, none⟩) comps.length cap :: vo :: vals)[i]? = some u → ∀ q, u.ownBlock = some q → ¬ q = gc := fun {i u} hi hu q hq e => h.sep.get hi hu (show (boxB mb :: .slice (some ⟨gc, 0, none⟩) comps.length cap :: vo :: vals)[1]? = some (.slice (some ⟨gc, 0, none⟩) comps.length cap) from rfl) q hq (by rw [e]; rfl)
  have hvl := h.vl
  have hvc : ∀ q, v'.ownBlock = some q → ¬ q = gc := fun q hq e => by
    rcases hm q hq with k | k
    · exact hc (i := j + 3) (by omega) (h.at3 hj) q k e
    · have := (World.ownsRow.lt h.r gc rfl).2
      omega
  refine ⟨?_, fun i hi => ?_, ?_, ?_, ?_, h.ge⟩
  · rw [List.length_set]
    exact (World.ownsRow.stored (ownsRow_only h.r ho (ha (i := 1) (by omega) rfl)) j v').1
  · rw [List.length_set] at hi
    by_cases e : j = i
    · subst e
      rw [getD_set_eqL hj, show (vals.set j v').getD j undef = v' by simp [List.getD, show j < vals.length by omega]]
      exact h1.only ho2 hvc
    · rw [getD_set_neL e, show (vals.set j v').getD i undef = vals.getD i undef by simp [List.getD, e]]
      exact ((h.e i hi).only ho (ha (i := i + 3) (by omega) (h.at3 hi))).only ho2 (hc (i := i + 3) (by omega) (h.at3 hi))
  · exact (h.o.only ho (ha (i := 2) (by omega) rfl)).only ho2 (hc (i := 2) (by decide) rfl)
  · exact (h.m.blk (ho.block _ h.m.lt (ha (i := 0) (by omega) rfl mb rfl))).blk (ho2.block _ (Nat.lt_of_lt_of_le h.m.lt ho.size) (hc (i := 0) (by decide) rfl mb rfl))
  · exact h.sep.setA (i := j + 3) (h.at3 hj) hm h.lts
end
theorem ownsRow_slice {w : World} {b e sz n : Nat} {v : Value} {l : List Value} (h : w.ownsRow b e sz v n l) : ∃ ao cap, v = .slice ao n cap := by
  rcases h.2 with ⟨hv, h0⟩ | ⟨g, cap, cur, hv, hb, hg, _⟩
  · exact ⟨none, 0, by rw [hv, h0]⟩
  · exact ⟨_, cap, hv⟩
theorem ownsRow_at {w : World} {b e sz n c : Nat} {a : Option Addr} {l : List Value} (h : w.ownsRow b e sz (.slice a n c) n l) : ∃ g, 0 < n → a = some ⟨g, 0, none⟩ := by
  rcases h.2 with ⟨_, h0⟩ | ⟨g, cap, cur, hv, _⟩
  · exact ⟨0, fun h => absurd h (by omega)⟩
  · injection hv with h1 h2 h3
    exact ⟨g, fun _ => h1⟩
section
variable {w w' : World} {B mb gc cap : Nat} {vc vo vc' vo' : Value} {vals : List Value} {comps : List (List Mv)} {os os' : List Mv} {ks : List Nat}
/-- v is a slice of slices of moves. -/
def IsMvss (w : World) (v : Value) (cs : List (List Mv)) : Prop := ∃ ao cap b off, ∃ V : Nat → Value, v = .slice ao cs.length cap ∧ cs.length ≤ 140737488351232 ∧ (0 < cs.length → ao = some ⟨b, off, none⟩) ∧ ∀ j, j < cs.length → w.cell? ⟨b, off + j, none⟩ = some (V j) ∧ IsMvs w (V j) (cs.getD j [])
theorem CB.is (h : CB w B vc vals comps vo os mb ks) (hn : comps.length ≤ 200000 ∧ os.length ≤ 200000 ∧ ∀ j, j < comps.length → (comps.getD j []).length ≤ 200000) : IsMvss w vc comps ∧ IsMvs w vo os := by
  refine ⟨?_, h.o.is (by unfold maxN; omega)⟩
  rcases h.r.2 with ⟨hv, h0⟩ | ⟨g, cap, cur, hv, hb, hg, hnc, hcm, hcs, htake⟩
  · exact ⟨none, 0, 0, 0, fun _ => undef, by rw [hv, h0], by omega, fun k => by omega, fun j hj => by omega⟩
  · refine ⟨_, cap, g, 0, fun j => vals.getD j undef, hv, by omega, fun _ => rfl, fun j hj => ⟨?_, (h.e j hj).is (by have := hn.2.2 j hj; unfold maxN; omega)⟩⟩
    have hl : j < vals.length := by rw [h.vl]; exact hj
    have hr := h.r
    rw [hv] at hr
    rw [Nat.zero_add, World.ownsRow.cellAt hr j (by omega)]
    simp [List.getD, hl]
end

end Go.Proofs.Ytdkpdpcecjcmcaa
