/- Raising measures until all positions have what they need (plain). -/
import Derived.Test.YtijkjhcigdfdgaaQRkP7
namespace Go.Proofs.Ytijkjhcigdfdgaa

section
variable {g : Gm} {n u v m : Nat} {mo : List Nat} {f f0 : Nat → Nat}
/-- Where one more is needed behind a raise. -/
theorem raise_more (hE : RE g n) (hle : ∀ v, v < n → f v ≤ topN mo) (hu : u < n) (hm : m = needN g mo f u) (hv : v < n) (h : needN g mo f v ≤ (if v = u then m else f v))
    (h2 : (if v = u then m else f v) < needN g mo (fun x => if x = u then m else f x) v) : Edge g v u ∧ (if v = u then m else f v) < alongN mo m (prN g v) := by
  have hle' : ∀ v, v < n → (fun x => if x = u then m else f x) v ≤ topN mo := fun v hv => by
    try dsimp only
    split
    · rw [hm]; exact need_le hE hle hu
    · exact hle v hv
  have key : ¬ (Edge g v u → alongN mo m (prN g v) ≤ (if v = u then m else f v)) := fun hc => by
    refine absurd h2 (Nat.not_lt.2 ?_)
    rw [need_ge_iff hE hle' hv]
    obtain ⟨o1, o2⟩ := (need_ge_iff hE hle hv).1 h
    refine ⟨fun ho => ?_, fun ho j hj => ?_⟩
    · obtain ⟨j, hj, h3⟩ := o1 ho
      refine ⟨j, hj, ?_⟩
      try dsimp only
      split
      · rename_i e; subst e; exact hc hj
      · exact h3
    · try dsimp only
      split
      · rename_i e; subst e; exact hc hj
      · exact o2 ho j hj
  by_cases he : Edge g v u
  · refine ⟨he, ?_⟩
    by_cases h3 : alongN mo m (prN g v) ≤ (if v = u then m else f v)
    · exact absurd (fun _ => h3) key
    · omega
  · exact absurd (fun h => absurd h he) key

/-- What holds of the positions that wait. -/
structure RO (g : Gm) (n : Nat) (mo : List Nat) (f : Nat → Nat) (l : List Int) : Prop where
  und : Und g n mo f
  nd : l.Nodup
  rg : ∀ x ∈ l, ∃ v : Nat, x = (v : Int) ∧ v < n
  ok : ∀ v, v < n → needN g mo f v ≤ f v ∨ (v : Int) ∈ l
/-- Within a pass: behind i of the positions that waited. -/
structure RI (g : Gm) (n : Nat) (mo : List Nat) (f0 f : Nat → Nat) (rest next : List Int) : Prop where
  o : RO g n mo f (rest ++ next)
  s : sumN f0 n ≤ sumN f n
  t : next ≠ [] → sumN f0 n < sumN f n
/-- Behind a raise of a position to m: k of those ahead of it have been looked at. -/
structure RJ (g : Gm) (n : Nat) (mo : List Nat) (f0 f : Nat → Nat) (m : Nat) (rest next bl : List Int) : Prop where
  und : Und g n mo f
  nd : (rest ++ next).Nodup
  rg : ∀ x ∈ rest ++ next, ∃ v : Nat, x = (v : Int) ∧ v < n
  ok : ∀ v, v < n → needN g mo f v ≤ f v ∨ (v : Int) ∈ rest ++ next ∨ ((v : Int) ∈ bl ∧ f v < alongN mo m (prN g v))
  t : sumN f0 n < sumN f n
theorem nodup_len {l : List Int} (h : l.Nodup) (hr : ∀ x ∈ l, ∃ v : Nat, x = (v : Int) ∧ v < n) : l.length ≤ n := by
  have : (l.map Int.toNat).Nodup := by
    refine List.pairwise_map.2 (List.Pairwise.imp_of_mem (fun {x y} hx hy hne e => ?_) h)
    obtain ⟨a, rfl, -⟩ := hr x hx
    obtain ⟨b, rfl, -⟩ := hr y hy
    simp at e
    exact hne (by rw [e])
  have h2 := nd_lenN this (l' := List.range n) fun x hx => by
    obtain ⟨y, hy, rfl⟩ := List.mem_map.1 hx
    obtain ⟨a, rfl, ha⟩ := hr y hy
    simpa using ha
  simpa using h2
variable {rest next bl : List Int}
theorem RO.begin (h : RO g n mo f rest) : RI g n mo f f rest [] := ⟨by rw [List.append_nil]; exact h, Nat.le_refl _, fun h => absurd rfl h⟩
theorem RO.len (h : RO g n mo f rest) : rest.length ≤ n := nodup_len h.nd h.rg
theorem RI.len (h : RI g n mo f0 f rest next) : rest.length + next.length ≤ n := by have := h.o.len; rwa [List.length_append] at this
theorem RI.fin (h : RI g n mo f0 f [] next) : RO g n mo f next := h.o
theorem RI.skip (h : RI g n mo f0 f ((u : Int) :: rest) next) (hn : needN g mo f u ≤ f u) : RI g n mo f0 f rest next :=
  ⟨⟨h.o.und, (List.nodup_cons.1 h.o.nd).2, fun x hx => h.o.rg x (List.mem_cons_of_mem _ hx), fun v hv => by
    rcases h.o.ok v hv with h1 | h1
    · exact .inl h1
    · rcases List.mem_cons.1 h1 with e | h1
      · left
        have : v = u := by omega
        rw [this]; exact hn
      · exact .inr h1⟩, h.s, h.t⟩
theorem RI.raise (hE : RE g n) (h : RI g n mo f0 f ((u : Int) :: rest) next) (hu : u < n) (hl : f u < needN g mo f u) (hb : ∀ v, v < n → Edge g v u → (v : Int) ∈ bl) :
    RJ g n mo f0 (fun x => if x = u then needN g mo f u else f x) (needN g mo f u) rest next bl := by
  have h1 := sum_lt (f := f) (f' := fun x => if x = u then needN g mo f u else f x) (n := n) (v := u) (fun x _ => by
    by_cases e : x = u
    · subst e; simp only [if_true]; omega
    · simp only [if_neg e]; omega) hu (by simpa using hl)
  refine ⟨h.o.und.raise hE hu, (List.nodup_cons.1 h.o.nd).2, fun x hx => h.o.rg x (List.mem_cons_of_mem _ hx), fun v hv => ?_, Nat.lt_of_le_of_lt h.s h1⟩
  by_cases h2 : needN g mo (fun x => if x = u then needN g mo f u else f x) v ≤ (if v = u then needN g mo f u else f v)
  · exact .inl h2
  · right
    by_cases h3 : (v : Int) ∈ rest ++ next
    · exact .inl h3
    · right
      have h4 : needN g mo f v ≤ (if v = u then needN g mo f u else f v) := by
        by_cases e : v = u
        · subst e; rw [if_pos rfl]; exact Nat.le_refl _
        · rw [if_neg e]
          rcases h.o.ok v hv with h5 | h5
          · exact h5
          · rcases List.mem_cons.1 h5 with e2 | h5
            · exfalso; omega
            · exact absurd h5 h3
      obtain ⟨h5, h6⟩ := raise_more hE (fun v hv => h.o.und.le hE hv) hu rfl hv h4 (Nat.lt_of_not_le h2)
      exact ⟨hb v hv h5, h6⟩
theorem RJ.add (h : RJ g n mo f0 f m rest next ((v : Int) :: bl)) (hv : v < n) (hn : (v : Int) ∉ rest ++ next) : RJ g n mo f0 f m rest (next ++ [(v : Int)]) bl := by
  have e : rest ++ (next ++ [(v : Int)]) = (rest ++ next) ++ [(v : Int)] := (List.append_assoc _ _ _).symm
  refine ⟨h.und, ?_, fun x hx => ?_, fun x hx => ?_, h.t⟩
  · rw [e, List.nodup_append]
    exact ⟨h.nd, by simp, fun a ha b hb => by rw [List.mem_singleton.1 hb]; rintro rfl; exact hn ha⟩
  · rw [e] at hx
    rcases List.mem_append.1 hx with hx | hx
    · exact h.rg x hx
    · rw [List.mem_singleton.1 hx]; exact ⟨v, rfl, hv⟩
  · rw [e]
    rcases h.ok x hx with h1 | h1 | ⟨h1, h2⟩
    · exact .inl h1
    · exact .inr (.inl (List.mem_append_left _ h1))
    · rcases List.mem_cons.1 h1 with e2 | h1
      · exact .inr (.inl (List.mem_append_right _ (by rw [e2]; simp)))
      · exact .inr (.inr ⟨h1, h2⟩)
theorem RJ.pass (h : RJ g n mo f0 f m rest next ((v : Int) :: bl)) (hn : ¬ f v < alongN mo m (prN g v) ∨ (v : Int) ∈ rest ++ next) : RJ g n mo f0 f m rest next bl := by
  refine ⟨h.und, h.nd, h.rg, fun x hx => ?_, h.t⟩
  rcases h.ok x hx with h1 | h1 | ⟨h1, h2⟩
  · exact .inl h1
  · exact .inr (.inl h1)
  · rcases List.mem_cons.1 h1 with e2 | h1
    · have : x = v := by omega
      subst this
      rcases hn with hn | hn
      · exact absurd h2 hn
      · exact .inr (.inl hn)
    · exact .inr (.inr ⟨h1, h2⟩)
theorem RJ.fin (h : RJ g n mo f0 f m rest next []) : RI g n mo f0 f rest next :=
  ⟨⟨h.und, h.nd, h.rg, fun x hx => by
    rcases h.ok x hx with h1 | h1 | ⟨h1, -⟩
    · exact .inl h1
    · exact .inr h1
    · simp at h1⟩, Nat.le_of_lt h.t, fun _ => h.t⟩
theorem RJ.len (h : RJ g n mo f0 f m rest next bl) : rest.length + next.length ≤ n := by have := nodup_len h.nd h.rg; rwa [List.length_append] at this
/-- How much is left. -/
def leftR (mo : List Nat) (f : Nat → Nat) (n : Nat) (l : List Int) : Nat := 2 * (n * topN mo - sumN f n) + if l = [] then 0 else 1
theorem RI.less (hE : RE g n) (h : RI g n mo f0 f [] next) (h0 : Und g n mo f0) {l : List Int} (hl : l ≠ []) : leftR mo f n next < leftR mo f0 n l := by
  have hb := sum_bd (f := f) (t := topN mo) (n := n) fun u hu => h.o.und.le hE hu
  have hb2 := sum_bd (f := f0) (t := topN mo) (n := n) fun u hu => h0.le hE hu
  have hs := h.s
  unfold leftR
  rw [if_neg hl]
  by_cases e : next = []
  · rw [if_pos e]; omega
  · rw [if_neg e]
    have := h.t e
    omega
theorem RO.start (hE : RE g n) : RO g n mo (fun _ => 0) ((List.range n).map fun (v : Nat) => (v : Int)) := by
  refine ⟨Und.zero, ?_, fun x hx => ?_, fun v hv => .inr (List.mem_map.2 ⟨v, List.mem_range.2 hv, rfl⟩)⟩
  · exact List.pairwise_map.2 (List.Pairwise.imp (fun {x y} hne e => hne (by omega)) List.nodup_range)
  · obtain ⟨v, hv, rfl⟩ := List.mem_map.1 hx
    exact ⟨v, rfl, List.mem_range.1 hv⟩
theorem RO.done (hE : RE g n) (h : RO g n mo f []) : LeastP g n mo f := h.und.done hE fun v hv => (h.ok v hv).resolve_right (by simp)
end

end Go.Proofs.Ytijkjhcigdfdgaa
