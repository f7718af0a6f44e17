/- Rows of lists of the call's own: built by append, replaced one by one. -/
import Derived.Test.YtijkjhcigdfdgaaQRkS
namespace Go.Proofs.Ytijkjhcigdfdgaa
open Go.RowKit

structure RowL (w : World) (B : Nat) (v : Value) (vals : List Value) (rows : List (List Int)) : Prop where
  o : w.ownsRow B 22 1 v rows.length vals
  e : ∀ j, j < rows.length → OI w B (vals.getD j undef) (rows.getD j [])
  a : ∀ j, j < rows.length → Apart v (vals.getD j undef)
  lv : vals.length = rows.length
section
variable {w w' : World} {B : Nat} {v u : Value} {vals : List Value} {rows : List (List Int)} {l : List Int}
theorem RowL.nil (w : World) (B : Nat) : RowL w B (.slice none 0 0) [] [] := ⟨World.ownsRow_nil _ _ _ _, fun j hj => by simp at hj, fun j hj => by simp at hj, rfl⟩
theorem RowL.grown (h : RowL w B v vals rows) {r : Option Nat} (hg : w.grownBy w' r) (h1 : v.ownBlock = none ∨ v.ownBlock ≠ r) (h2 : ∀ j, j < rows.length → (vals.getD j undef).ownBlock = none ∨ (vals.getD j undef).ownBlock ≠ r) : RowL w' B v vals rows :=
  ⟨World.ownsRow.kept h.o hg h1, fun j hj => (h.e j hj).grown hg (h2 j hj), h.a, h.lv⟩
theorem RowL.below (h : RowL w B v vals rows) (hb : Below w.heap.size w w') : RowL w' B v vals rows :=
  h.grown (below_grown hb) (by cases v.ownBlock <;> simp) (fun j _ => by cases (vals.getD j undef).ownBlock <;> simp)
theorem RowL.lt (h : RowL w B v vals rows) : ∀ g, v.ownBlock = some g → B ≤ g ∧ g < w.heap.size := fun g hg => World.ownsRow.lt h.o g hg
theorem RowL.row (h : RowL w B v vals rows) (hn : 0 < rows.length) : ∃ g cap, v = .slice (some ⟨g, 0, none⟩) rows.length cap ∧ B ≤ g ∧ g < w.heap.size := by
  rcases h.o.2 with ⟨-, e⟩ | ⟨g, cap, cur, rfl, hb, hg, -⟩
  · have := h.lv; rw [e] at this; simp at this; omega
  · exact ⟨g, cap, rfl, hb, (Array.getElem?_eq_some_iff.1 hg).1⟩
theorem RowL.slice (h : RowL w B v vals rows) : ∃ ao cap, v = .slice ao rows.length cap := by
  rcases h.o.2 with ⟨rfl, e⟩ | ⟨g, cap, cur, rfl, -⟩
  · have := h.lv
    try rw [e] at this
    try simp at this
    exact ⟨none, 0, by rw [show rows.length = 0 by omega]⟩
  · exact ⟨_, _, rfl⟩
theorem RowL.cell {g n cap j : Nat} (h : RowL w B (.slice (some ⟨g, 0, none⟩) n cap) vals rows) (hn : rows.length = n) (hj : j < n) : w.cell? ⟨g, j, none⟩ = some (vals.getD j undef) := by
  subst hn
  rw [World.ownsRow.cellAt h.o j (by omega)]
  simp [List.getD, show j < vals.length by rw [h.lv]; exact hj]
theorem RowL.fz {g n cap : Nat} (h : RowL w B (.slice (some ⟨g, 0, none⟩) n cap) vals rows) (hn : rows.length = n) (j : Nat) : w.frozen? ⟨g, j, none⟩ = false := by
  subst hn
  exact World.ownsRow.frozenAt h.o j
theorem RowL.set {g n cap : Nat} (h : RowL w B (.slice (some ⟨g, 0, none⟩) n cap) vals rows) (hn : rows.length = n) {j : Nat} (hu : OI w B u l) (ha : Apart (.slice (some ⟨g, 0, none⟩) n cap) u) :
    RowL (w.setCell ⟨g, j, none⟩ u) B (.slice (some ⟨g, 0, none⟩) n cap) (vals.set j u) (rows.set j l) := by
  subst hn
  have hst := (World.ownsRow.stored h.o j u).1
  have hne : ∀ (x : Value), Apart (.slice (some ⟨g, 0, none⟩) rows.length cap) x → x.ownBlock = none ∨ x.ownBlock ≠ some g := fun x hx => by
    cases hxo : x.ownBlock with
    | none => exact .inl rfl
    | some q => exact .inr fun e => by cases e; exact hx g rfl hxo
  refine ⟨by rw [List.length_set]; exact hst, fun i hi => ?_, fun i hi => ?_, by rw [List.length_set, List.length_set]; exact h.lv⟩
  · rw [List.length_set] at hi
    by_cases e : j = i
    · subst e
      rw [getD_set_eq _ _ _ _ (by rw [h.lv]; exact hi), getD_set_eq _ _ _ _ hi]
      exact hu.grown (grown_set w g j u) (hne _ ha)
    · rw [getD_set_ne _ _ _ _ _ e, getD_set_ne _ _ _ _ _ e]
      exact (h.e i hi).grown (grown_set w g j u) (hne _ (h.a i hi))
  · rw [List.length_set] at hi
    by_cases e : j = i
    · subst e
      rw [getD_set_eq _ _ _ _ (by rw [h.lv]; exact hi)]
      exact ha
    · rw [getD_set_ne _ _ _ _ _ e]
      exact h.a i hi
theorem RowL.is (h : RowL w B v vals rows) (hn : rows.length ≤ 20000) (hl : ∀ j, j < rows.length → (rows.getD j []).length ≤ 20000 ∧ ∀ x ∈ rows.getD j [], I64 x) : IsRows w v rows := by
  refine ⟨fun j => vals.getD j undef, ownsRow_arr h.o (by unfold maxN; omega) _ fun j hj => ?_, fun j hj => (h.e j hj).is (by have := (hl j hj).1; unfold maxN; omega) (hl j hj).2⟩
  have : j < vals.length := by rw [h.lv]; exact hj
  rw [getD_lt _ _ _ this]; simp [this]
theorem RowL.ofNil {n g : Nat} (h : w.ownsRow B 22 1 (.slice (some ⟨g, 0, none⟩) n n) n (List.replicate n (.slice none 0 0))) : RowL w B (.slice (some ⟨g, 0, none⟩) n n) (List.replicate n (.slice none 0 0)) (List.replicate n []) := by
  refine ⟨by rw [List.length_replicate]; exact h, fun j hj => ?_, fun j hj => ?_, by simp⟩
  · rw [List.length_replicate] at hj
    rw [show (List.replicate n (Value.slice none 0 0)).getD j undef = .slice none 0 0 by simp [List.getD, hj], show (List.replicate n ([] : List Int)).getD j [] = [] by simp [List.getD, hj]]
    exact OI_nil _ _
  · rw [List.length_replicate] at hj
    rw [show (List.replicate n (Value.slice none 0 0)).getD j undef = .slice none 0 0 by simp [List.getD, hj]]
    intro q _ hq; cases hq
/-- One more list. -/
theorem RowL.app {v' : Value} (h : RowL w B v vals rows) (hu : OI w B u l) (ha : Apart v u) (ho : w'.ownsRow B 22 1 v' (rows.length + 1) (vals ++ [u])) (hg : w.grownBy w' v.ownBlock) (hm : Moved w v v') : RowL w' B v' (vals ++ [u]) (rows ++ [l]) := by
  have hk : ∀ j, j < rows.length → (vals ++ [u]).getD j undef = vals.getD j undef := fun j hj => by
    rw [List.getD_eq_getElem?_getD, List.getD_eq_getElem?_getD, List.getElem?_append_left (by rw [h.lv]; exact hj)]
  have hk2 : ∀ j, j < rows.length → (rows ++ [l]).getD j [] = rows.getD j [] := fun j hj => by
    rw [List.getD_eq_getElem?_getD, List.getD_eq_getElem?_getD, List.getElem?_append_left hj]
  have e1 : (vals ++ [u]).getD rows.length undef = u := by
    rw [List.getD_eq_getElem?_getD, List.getElem?_append_right (by rw [h.lv]; omega), h.lv]; simp
  have e2 : (rows ++ [l]).getD rows.length [] = l := by
    rw [List.getD_eq_getElem?_getD, List.getElem?_append_right (by omega)]; simp
  refine ⟨by rw [List.length_append, List.length_singleton]; exact ho, fun j hj => ?_, fun j hj => ?_, by simp [h.lv]⟩
  · rw [List.length_append, List.length_singleton] at hj
    by_cases e : j = rows.length
    · subst e
      rw [e1, e2]
      exact hu.grown hg ha.symm.ne
    · rw [hk j (by omega), hk2 j (by omega)]
      exact (h.e j (by omega)).grown hg (h.a j (by omega)).symm.ne
  · rw [List.length_append, List.length_singleton] at hj
    by_cases e : j = rows.length
    · subst e
      rw [e1]
      exact (ha.symm.moved hm hu.lt').symm
    · rw [hk j (by omega)]
      exact ((h.a j (by omega)).symm.moved hm (h.e j (by omega)).lt').symm
end

theorem app_rowL {ops : Array Oper} {rest : List Oper} {o : Oper} {a : Act} {Q : Exit → Act → World → Prop} {w : World} (hgd : o.guard = none) (s x : Operand)
    (ho : o.op = .call { callee := .builtin .append, args := #[s, x], argTypes := #[23, 23] })
    (B : Nat) (v u : Value) (vals : List Value) (rows : List (List Int)) (l : List Int) (hown : RowL w B v vals rows) (hs : a.eval s = v) (hu : OI w B u l) (ha : Apart v u) (m : Nat) (hm : m = w.heap.size) (hx : a.eval x = .slice (some ⟨m, 0, none⟩) 1 1)
    (hn : rows.length < 5864062014000) (hbase : B ≤ w.heap.size)
    (h : ∀ v' w', RowL w' B v' (vals ++ [u]) (rows ++ [l]) → w.grownBy w' v.ownBlock → Moved w v v' → wpList Try.prog ops Q rest (a.put o.dst v') w') :
    wpList Try.prog ops Q (o :: rest) a (w.alloc (.cells #[u] 22)) := by
  have h1c : u.oneCell' = true := by
    obtain ⟨ao, c, rfl⟩ := hu.slice
    rfl
  exact wpList_app1 hgd s x _ _ 24 _ _ ho Try.underlying23 info_ints rfl B v rows.length vals hs hown.o m hm hx h1c (by omega) (by decide) hbase fun v' w' h1 h2 h3 => h v' w' (hown.app hu ha h1 h2 h3) h2 h3

end Go.Proofs.Ytijkjhcigdfdgaa
