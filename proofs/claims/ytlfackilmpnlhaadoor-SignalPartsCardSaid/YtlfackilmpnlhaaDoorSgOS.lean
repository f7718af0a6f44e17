/- Rows of signals of the call's own: what append leaves. -/
import Derived.Test.YtlfackilmpnlhaaDoorSgOwn
import Derived.Test.YtlfackilmpnlhaaDoorSgBase
import Derived.Deep.AppendLies
namespace Go.Proofs.YtlfackilmpnlhaaDoor
open Go.RowKit

def sigC (s : Sig) : List Value := [.string s.name, .bool s.inp, .int .i64 s.size]
def cellsOfS (l : List Sig) : List Value := l.flatMap sigC
theorem cellsOfS_len (l : List Sig) : (cellsOfS l).length = l.length * 3 := by
  induction l with
  | nil => rfl
  | cons s r ih => simp only [cellsOfS, List.flatMap_cons, List.length_append, List.length_cons] at *; rw [ih]; simp [sigC]; omega
theorem cellsOfS_get (l : List Sig) (j k : Nat) (hj : j < l.length) (hk : k < 3) : (cellsOfS l)[j * 3 + k]? = (sigC l[j])[k]? := by
  induction l generalizing j with
  | nil => simp at hj
  | cons s r ih =>
    simp only [cellsOfS, List.flatMap_cons] at *
    cases j with
    | zero => rw [List.getElem?_append_left (by simp [sigC]; omega)]; simp
    | succ j =>
      rw [List.getElem?_append_right (by simp [sigC]; omega)]
      have := ih j (by simpa using hj)
      simp only [sigC, List.length_cons, List.length_nil, List.getElem_cons_succ] at this ⊢
      rw [← this]
      congr 1
      omega

/-- A row of signals of the call's own. -/
def OS (w : World) (base : Nat) (v : Value) (l : List Sig) : Prop := w.ownsRow base 36 3 v l.length (cellsOfS l)

theorem OS.slice {w : World} {base : Nat} {v : Value} {l : List Sig} (h : OS w base v l) : ∃ ao cap, v = .slice ao l.length cap := by
  rcases h.2 with ⟨hv, h0⟩ | ⟨g, cap, cur, hv, hb, hg, _⟩
  · exact ⟨none, 0, by rw [hv, h0]⟩
  · exact ⟨_, cap, hv⟩

theorem OS.is {w : World} {base : Nat} {v : Value} {l : List Sig} (h : OS w base v l) (hn : l.length ≤ maxN) (hz : ∀ s ∈ l, I64 s.size) (hs : ∀ s ∈ l, s.name.size ≤ maxN) : IsSigs w v l := by
  rcases h.2 with ⟨hv, h0⟩ | ⟨g, cap, cur, hv, hb, hg, hnc, hcm, hcs, htake⟩
  · have : l = [] := List.eq_nil_of_length_eq_zero h0
    subst this
    rw [hv]
    exact ⟨none, 0, 0, 0, rfl, Nat.le_refl _, Nat.zero_le _, Nat.zero_le _, fun h => absurd h (by simp), fun j h => absurd h (by simp), fun j h => absurd h (by simp), fun j h => absurd h (by simp), by simp, by simp⟩
  · subst hv
    have hc : ∀ j k, (hj : j < l.length) → k < 3 → w.cell? ⟨g, j * 3 + k, none⟩ = (sigC l[j])[k]? := fun j k hj hk => by
      rw [World.ownsRow.cellAt h (j * 3 + k) (by omega), cellsOfS_get l j k hj hk]
    refine ⟨some ⟨g, 0, none⟩, cap, g, 0, rfl, hnc, hcm, hn, fun _ => rfl, fun j hj => ?_, fun j hj => ?_, fun j hj => ?_, hz, hs⟩
    · rw [Nat.zero_add]; exact hc j 0 hj (by omega)
    · rw [Nat.zero_add]; exact hc j 1 hj (by omega)
    · rw [Nat.zero_add]; exact hc j 2 hj (by omega)

theorem OS.grown {w w' : World} {base : Nat} {v : Value} {l : List Sig} {row : Option Nat} (h : OS w base v l) (hg : w.grownBy w' row) (hne : v.ownBlock = none ∨ v.ownBlock ≠ row) : OS w' base v l := World.ownsRow.kept h hg hne
theorem OS.below {w w' : World} {base : Nat} {v : Value} {l : List Sig} (h : OS w base v l) (hb : Below w.heap.size w w') : OS w' base v l := h.grown (below_grown hb) (by cases v.ownBlock <;> simp)
theorem OS.ge {w : World} {base : Nat} {v : Value} {l : List Sig} (h : OS w base v l) : ∀ g, v.ownBlock = some g → base ≤ g := fun g hg => (World.ownsRow.lt h g hg).1
theorem OS_empty (w : World) : OS (w.alloc (.cells #[] 36)) w.heap.size (.slice (some ⟨w.heap.size, 0, none⟩) 0 0) [] :=
  ⟨rfl, .inr ⟨w.heap.size, 0, #[], rfl, Nat.le_refl _, heap_alloc_new w _, Nat.le_refl _, Nat.zero_le _, rfl, rfl⟩⟩
theorem OS.base {w : World} {base base' : Nat} {v : Value} {l : List Sig} (h : OS w base v l) (hb : base' ≤ base) : OS w base' v l := by
  refine ⟨h.1, ?_⟩
  rcases h.2 with h0 | ⟨g, cap, cur, hv, hg, r⟩
  · exact .inl h0
  · exact .inr ⟨g, cap, cur, hv, Nat.le_trans hb hg, r⟩
theorem OS.drew {w : World} {base : Nat} {v : Value} {l : List Sig} (h : OS w base v l) : OS w.drew base v l := h

theorem info_sig : (Tryd.prog.info? 36).map (fun i => (i.zero, i.size, i.bytes)) = some (some (.agg #[.string ⟨#[]⟩, .bool false, .int .i64 0]), 3, 32) := by kernel_rfl

/-- 'append' of signals to a row of the call's own, in a region that draws its order. -/
theorem wp_app_sigs {o : Oper} {a : Act} {K : Act → World → Prop} {Q : Exit → Act → World → Prop} (w : World) (s x : Operand)
    (ho : o.op = .call { callee := .builtin .append, args := #[s, x], argTypes := #[22, 22] })
    (base : Nat) (v : Value) (l1 l2 : List Sig) (hs : a.eval s = v) (hown : OS w base v l1) (ad : Addr) (m c : Nat) (hx : a.eval x = .slice (some ad) m c) (hm : l2.length = m)
    (hnews : ∀ j u, (cellsOfS l2)[j]? = some u → w.cell? (ad.add j) = some u) (hn : l1.length + l2.length ≤ 100) (hbase : base ≤ w.heap.size)
    (h : ∀ v' w', OS w' base v' (l1 ++ l2) → w.grownBy w' v.ownBlock → K (a.put o.dst v') w') : Oper.wp Tryd.prog o a w K Q := by
  obtain ⟨i0, hi0, hz0, hz1, hz2⟩ := info_parts info_sig
  have h1 : ∀ u ∈ cellsOfS l2, u.oneCell' = true := fun u hu => by
    obtain ⟨q, _, hq⟩ := List.mem_flatMap.1 hu
    simp only [sigC, List.mem_cons, List.not_mem_nil, or_false] at hq
    rcases hq with rfl | rfl | rfl <;> rfl
  obtain ⟨v', w', hr, h2, h3, h4⟩ := run_append_own (P := Tryd.prog) w base 22 o.type 36 i0 _ 3 32 Tryd.underlying22 hi0 hz0 hz1 hz2 rfl (by decide) v l1.length (cellsOfS l1) hown ad m c (cellsOfS l2) (by rw [cellsOfS_len, hm]) hnews h1 (by simp only [maxLen]; omega) (by omega) hbase
  unfold Oper.wp execOp
  simp only [ho, resolve, invoke, builtin, Sem.run_bind, Sem.run_pure, Result.andThen_ok, List.map_toArray, List.map_cons, List.map_nil, hs, hx, hr]
  refine h v' w' ?_ h3
  unfold OS
  rw [List.length_append, cellsOfS, List.flatMap_append, hm]
  exact h2

end Go.Proofs.YtlfackilmpnlhaaDoor
