/- The search for the places of an automaton, in plain lists. -/
import Derived.Test.YtjadeffdcbchnaaDoorBase
namespace Go.Proofs.YtjadeffdcbchnaaDoor

/-- A place: a state, an input or -1, a priority or -1. -/
structure Pl where
  st : Int
  inn : Int
  pr : Int
deriving DecidableEq

def addP (l : List Pl) (y : Pl) : List Pl := if y ∈ l then l else l ++ [y]
def addA (l : List Pl) (ys : List Pl) : List Pl := ys.foldl addP l
theorem addP_pre (l : List Pl) (y : Pl) : ∃ e, addP l y = l ++ e := by
  unfold addP; split
  · exact ⟨[], by simp⟩
  · exact ⟨[y], rfl⟩
theorem addA_pre (l ys : List Pl) : ∃ e, addA l ys = l ++ e := by
  induction ys generalizing l with
  | nil => exact ⟨[], by simp [addA]⟩
  | cons y ys ih =>
    obtain ⟨e, he⟩ := addP_pre l y
    obtain ⟨e', he'⟩ := ih (addP l y)
    exact ⟨e ++ e', by rw [addA, List.foldl_cons, ← addA, he', he, List.append_assoc]⟩
theorem addA_snoc (l ys : List Pl) (y : Pl) : addA l (ys ++ [y]) = addP (addA l ys) y := by simp [addA]
theorem addP_mem (l : List Pl) (y : Pl) : y ∈ addP l y := by
  unfold addP; split
  · assumption
  · simp
theorem addA_mem (l ys : List Pl) : ∀ y ∈ ys, y ∈ addA l ys := by
  induction ys generalizing l with
  | nil => intro y hy; cases hy
  | cons z ys ih =>
    intro y hy
    rw [addA, List.foldl_cons, ← addA]
    rcases List.mem_cons.1 hy with rfl | hy
    · obtain ⟨e, he⟩ := addA_pre (addP l y) ys
      rw [he]; exact List.mem_append_left _ (addP_mem l y)
    · exact ih _ y hy
theorem addP_nodup {l : List Pl} (h : l.Nodup) (y : Pl) : (addP l y).Nodup := by
  unfold addP; split
  · exact h
  · rename_i hn
    rw [List.nodup_append]
    exact ⟨h, by simp, fun a ha b hb => by rw [List.mem_singleton.1 hb]; rintro rfl; exact hn ha⟩
theorem addA_nodup {l : List Pl} (h : l.Nodup) (ys : List Pl) : (addA l ys).Nodup := by
  induction ys generalizing l with
  | nil => exact h
  | cons y ys ih => rw [addA, List.foldl_cons, ← addA]; exact ih (addP_nodup h y)
theorem idx_pre {l e : List Pl} {y : Pl} (h : y ∈ l) : (l ++ e).idxOf y = l.idxOf y := by
  induction l with
  | nil => cases h
  | cons z l ih =>
    rw [List.cons_append, List.idxOf_cons, List.idxOf_cons]
    by_cases e : z = y
    · subst e; simp
    · have hb : (z == y) = false := by simpa using e
      rw [hb, ih ((List.mem_cons.1 h).resolve_left fun x => e x.symm)]
theorem idx_lt {l : List Pl} {y : Pl} (h : y ∈ l) : l.idxOf y < l.length := List.idxOf_lt_length_iff.2 h
theorem idx_new {l : List Pl} {y : Pl} (h : y ∉ l) : (l ++ [y]).idxOf y = l.length := by
  induction l with
  | nil => simp
  | cons z l ih =>
    have e : ¬ z = y := fun x => h (by rw [x]; exact List.mem_cons_self)
    have hb : (z == y) = false := by simpa using e
    rw [List.cons_append, List.idxOf_cons, hb, ih (fun x => h (List.mem_cons_of_mem _ x))]
    simp

/-- The numbers of places in a list. -/
def numsP (l ys : List Pl) : List Int := ys.map fun y => (l.idxOf y : Int)
theorem numsP_pre {l e ys : List Pl} (h : ∀ y ∈ ys, y ∈ l) : numsP (l ++ e) ys = numsP l ys := by
  unfold numsP
  exact List.map_congr_left fun y hy => by rw [idx_pre (h y hy)]
theorem numsP_snoc (l ys : List Pl) (y : Pl) : numsP l (ys ++ [y]) = numsP l ys ++ [(l.idxOf y : Int)] := by simp [numsP]

section
variable (S : Pl → List Pl)
/-- The search: some fuel, how many places have been gone through, the places; at most a number of them. -/
def bfsF (most : Nat) : Nat → Nat → List Pl → Option (List Pl)
  | 0, _, _ => none
  | f + 1, k, l => if _h : k < l.length then (if (addA l (S l[k])).length ≤ most then bfsF most f (k + 1) (addA l (S l[k])) else none) else some l

/-- Behind k places. -/
structure AtP (most : Nat) (x0 : Pl) (k : Nat) (l : List Pl) : Prop where
  eq : bfsF S most (most + 1) 0 [x0] = bfsF S most (most + 1 - k) k l
  le : l.length ≤ most
  nd : l.Nodup
  kl : k ≤ l.length
  cl : ∀ j, j < k → ∀ (h2 : j < l.length), ∀ y ∈ S l[j], y ∈ l
  hd : l[0]? = some x0
variable {S}
theorem AtP.start {most : Nat} (h : 1 ≤ most) (x0 : Pl) : AtP S most x0 0 [x0] := ⟨rfl, h, by simp, by simp, fun j h => absurd h (by omega), rfl⟩
theorem AtP.next {most : Nat} {x0 : Pl} {k : Nat} {l : List Pl} (h : AtP S most x0 k l) (hk : k < l.length) (hm : (addA l (S l[k])).length ≤ most) : AtP S most x0 (k + 1) (addA l (S l[k])) := by
  have hle := h.le
  obtain ⟨e, he⟩ := addA_pre l (S l[k])
  refine ⟨?_, hm, addA_nodup h.nd _, by rw [he]; simp; omega, fun j hj h2 y hy => ?_, by rw [he, List.getElem?_append_left (by omega)]; exact h.hd⟩
  · rw [h.eq, show most + 1 - k = (most + 1 - (k + 1)) + 1 by omega, bfsF, dif_pos hk, if_pos hm]
  · have hjl : j < l.length := by omega
    have e1 : (addA l (S l[k]))[j] = l[j] := by simp only [he]; rw [List.getElem_append_left hjl]
    rw [e1] at hy
    rcases (by omega : j < k ∨ j = k) with h3 | rfl
    · rw [he]; exact List.mem_append_left _ (h.cl j h3 hjl y hy)
    · exact addA_mem _ _ y hy
theorem AtP.fail {most : Nat} {x0 : Pl} {k : Nat} {l : List Pl} (h : AtP S most x0 k l) (hk : k < l.length) (hm : most < (addA l (S l[k])).length) : bfsF S most (most + 1) 0 [x0] = none := by
  have hle := h.le
  rw [h.eq, show most + 1 - k = (most + 1 - (k + 1)) + 1 by omega, bfsF, dif_pos hk, if_neg (by omega)]
theorem AtP.done {most : Nat} {x0 : Pl} {l : List Pl} (h : AtP S most x0 l.length l) : bfsF S most (most + 1) 0 [x0] = some l := by
  have hle := h.le
  rw [h.eq, show most + 1 - l.length = (most - l.length) + 1 by omega, bfsF, dif_neg (by omega)]
end

/-- The game of some places. -/
def plOwn (x : Pl) : Int := if x.inn < 0 then 1 else 0
def plPri (top : Int) (x : Pl) : Int := if x.inn < 0 then x.pr else top
def plGm (S : Pl → List Pl) (top : Int) (l : List Pl) (k : Nat) : Gm := ⟨(l.take k).map plOwn, (l.take k).map (plPri top), (l.take k).map fun x => numsP l (S x)⟩

end Go.Proofs.YtjadeffdcbchnaaDoor
