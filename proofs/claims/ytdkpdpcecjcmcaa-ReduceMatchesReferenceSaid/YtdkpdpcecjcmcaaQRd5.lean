/- Slices of moves in memory, and what is appended to them. -/
import Derived.Test.YtdkpdpcecjcmcaaQRd3
namespace Go.Proofs.Ytdkpdpcecjcmcaa
open Go.RowKit

theorem alloc_get (w : World) (o : Obj) (k : Nat) : (w.alloc o).heap[k]? = if k = w.heap.size then some o else w.heap[k]? := by
  show (w.heap.push o)[k]? = _
  rw [Array.getElem?_push]

def mvC (m : Mv) : Array Value := #[.int .i64 (m.1 : Int), .int .i64 (m.2 : Int)]
def mvsC (l : List Mv) : List Value := l.flatMap fun m => (mvC m).toList
theorem mvsC_len (l : List Mv) : (mvsC l).length = l.length * 2 := by
  induction l with
  | nil => rfl
  | cons s r ih => simp only [mvsC, List.flatMap_cons, List.length_append, List.length_cons] at *; rw [ih]; simp [mvC]; omega
theorem mvsC_get (l : List Mv) (j k : Nat) (hj : j < l.length) (hk : k < 2) : (mvsC l)[j * 2 + k]? = (mvC l[j])[k]? := by
  induction l generalizing j with
  | nil => simp at hj
  | cons s r ih =>
    simp only [mvsC, List.flatMap_cons] at *
    cases j with
    | zero => rw [List.getElem?_append_left (by simp [mvC]; omega)]; simp
    | succ j =>
      rw [List.getElem?_append_right (by simp [mvC]; omega)]
      have := ih j (by simpa using hj)
      simp only [mvC, List.length_cons, List.length_nil, List.getElem_cons_succ] at this ⊢
      rw [← this]
      congr 1
      omega
theorem mvsC_app (a b : List Mv) : mvsC (a ++ b) = mvsC a ++ mvsC b := by simp [mvsC]
theorem mvsC_one (m : Mv) : mvsC [m] = (mvC m).toList := by simp [mvsC]

/-- v is a slice of the moves l. -/
def IsMvs (w : World) (v : Value) (l : List Mv) : Prop := ∃ ao cap b off, v = .slice ao l.length cap ∧ (l.length ≤ cap ∧ cap ≤ maxLen ∧ l.length ≤ maxN) ∧ (0 < l.length → ao = some ⟨b, off, none⟩) ∧
  ∀ j (hj : j < l.length), w.cell? ⟨b, off + j * 2, none⟩ = some (.int .i64 (l[j].1 : Int)) ∧ w.cell? ⟨b, off + j * 2 + 1, none⟩ = some (.int .i64 (l[j].2 : Int))
theorem IsMvs.below {w w' : World} {v : Value} {l : List Mv} (h : IsMvs w v l) (hb : Below w.heap.size w w') : IsMvs w' v l := by
  obtain ⟨ao, cap, b, off, rfl, h1, h2, h3⟩ := h
  exact ⟨ao, cap, b, off, rfl, h1, h2, fun j hj => ⟨cellB hb (h3 j hj).1, cellB hb (h3 j hj).2⟩⟩
theorem IsMvs.shp {w : World} {v : Value} {l : List Mv} (h : IsMvs w v l) : ∃ ao cap, v = .slice ao l.length cap := by
  obtain ⟨ao, cap, b, off, rfl, -⟩ := h
  exact ⟨ao, cap, rfl⟩
theorem IsMvs.dat {w : World} {a : Option Addr} {n c : Nat} {l : List Mv} (h : IsMvs w (.slice a n c) l) : ∃ b o, (0 < n → a = some ⟨b, o, none⟩) ∧ n ≤ 140737488351232 ∧ ∀ j (hj : j < l.length), w.cell? ⟨b, o + j * 2, none⟩ = some (.int .i64 (l[j].1 : Int)) ∧ w.cell? ⟨b, o + j * 2 + 1, none⟩ = some (.int .i64 (l[j].2 : Int)) := by
  obtain ⟨ao, cap, b, off, hv, h1, h2, h3⟩ := h
  injection hv with e1 e2 e3
  subst e1 e2 e3
  exact ⟨b, off, h2, h1.2.2, h3⟩
theorem IsMvs_nil (w : World) : IsMvs w (.slice none 0 0) [] := ⟨none, 0, 0, 0, rfl, ⟨Nat.le_refl _, Nat.zero_le _, Nat.zero_le _⟩, fun h => absurd h (by simp), fun j h => absurd h (by simp)⟩

/-- A row of moves of one's own. -/
def OM (w : World) (base : Nat) (v : Value) (l : List Mv) : Prop := w.ownsRow base 49 2 v l.length (mvsC l)
section
variable {w w' : World} {bs bs' : Nat} {v : Value} {l : List Mv}
theorem OM.slice (h : OM w bs v l) : ∃ ao cap, v = .slice ao l.length cap := by
  rcases h.2 with ⟨hv, h0⟩ | ⟨g, cap, cur, hv, hb, hg, _⟩
  · exact ⟨none, 0, by rw [hv, h0]⟩
  · exact ⟨_, cap, hv⟩
theorem OM.ge (h : OM w bs v l) : ∀ g, v.ownBlock = some g → bs ≤ g := fun g hg => (World.ownsRow.lt h g hg).1
theorem OM.lt' (h : OM w bs v l) : ∀ g, v.ownBlock = some g → g < w.heap.size := fun g hg => (World.ownsRow.lt h g hg).2
theorem OM.base (h : OM w bs v l) (hb : bs' ≤ bs) : OM w bs' v l := by
  refine ⟨h.1, ?_⟩
  rcases h.2 with h0 | ⟨g, cap, cur, hv, hg, r⟩
  · exact .inl h0
  · exact .inr ⟨g, cap, cur, hv, Nat.le_trans hb hg, r⟩
theorem OM.only {S : Nat → Prop} (h : OM w bs v l) (ho : Only S w w') (hS : ∀ k, v.ownBlock = some k → ¬ S k) : OM w' bs v l := ownsRow_only h ho hS
theorem OM.below (h : OM w bs v l) (hb : Below w.heap.size w w') : OM w' bs v l := h.only (S := fun _ => False) (Only.of_below hb) fun _ _ => id
theorem OM.is (h : OM w bs v l) (hn : l.length ≤ maxN) : IsMvs w v l := by
  rcases h.2 with ⟨hv, h0⟩ | ⟨g, cap, cur, hv, hb, hg, hnc, hcm, hcs, htake⟩
  · have : l = [] := List.eq_nil_of_length_eq_zero h0
    subst this
    rw [hv]
    exact IsMvs_nil w
  · subst hv
    have hc : ∀ j k, (hj : j < l.length) → k < 2 → w.cell? ⟨g, j * 2 + k, none⟩ = (mvC l[j])[k]? := fun j k hj hk => by
      rw [World.ownsRow.cellAt h (j * 2 + k) (by omega), mvsC_get l j k hj hk]
    refine ⟨some ⟨g, 0, none⟩, cap, g, 0, rfl, ⟨hnc, hcm, hn⟩, fun _ => rfl, fun j hj => ⟨?_, ?_⟩⟩
    · rw [Nat.zero_add]; exact hc j 0 hj (by omega)
    · rw [Nat.zero_add]; exact hc j 1 hj (by omega)
end
theorem OM_nil (w : World) (base : Nat) : OM w base (.slice none 0 0) [] := World.ownsRow_nil _ _ _ _
theorem info_mv : (Try.prog.info? 49).map (fun i => (i.zero, i.size, i.bytes)) = some (some (.agg #[.int .i64 0, .int .i64 0]), 2, 16) := by kernel_rfl

/-- 'append(v, u)' of an element of some cells, which lies in the newest block. -/
theorem wpList_appS {P : Program} {ops : Array Oper} {rest : List Oper} {o : Oper} {a : Act} {Q : Exit → Act → World → Prop} {w : World} (hgd : o.guard = none) (s x : Operand) (t e : TypeId) (size bytes : Nat) (z : Value) (cs : Array Value)
    (ho : o.op = .call { callee := .builtin .append, args := #[s, x], argTypes := #[t, t] })
    (ht : P.underlying t = some (.slice e)) (hinfo : (P.info? e).map (fun i => (i.zero, i.size, i.bytes)) = some (some z, size, bytes)) (hzs : z.cells.size = size) (hsz : 0 < size)
    (base : Nat) (v : Value) (n : Nat) (xs : List Value) (hs : a.eval s = v) (hown : w.ownsRow base e size v n xs)
    (m : Nat) (hm : m = w.heap.size) (hx : a.eval x = .slice (some ⟨m, 0, none⟩) 1 1) (hl : cs.size = size) (h1 : ∀ u ∈ cs.toList, u.oneCell' = true)
    (h63 : n + 1 ≤ maxLen) (hbytes : (n + 1) * bytes ≤ 140737488355328) (hbase : base ≤ w.heap.size)
    (h : ∀ v' w', w'.ownsRow base e size v' (n + 1) (xs ++ cs.toList) → w.grownBy w' v.ownBlock → Moved w v v' → wpList P ops Q rest (a.put o.dst v') w') :
    wpList P ops Q (o :: rest) a (w.alloc (.cells cs e)) := by
  subst hm
  refine wpList_app hgd s x t e size bytes z ho ht hinfo hzs hsz base v n xs hs (hown.alloc _) ⟨w.heap.size, 0, none⟩ 1 1 cs.toList hx (by simp [hl]) (fun j u hu => ?_) h1 (by omega) hbytes (by simp; omega) ?_
  · have hc := cell_of_row (w.alloc (.cells cs e)) _ j _ _ _ (heap_alloc_new w (.cells cs e))
    rw [show (⟨w.heap.size, 0, none⟩ : Addr).add j = ⟨w.heap.size, j, none⟩ by simp [Addr.add]; omega, hc]
    simpa using hu
  intro v' w' h1 h2 _ h4
  refine h v' w' h1 ⟨h2.os, h2.tape, h2.output, by have := h2.size; simp at this; omega, fun k hk hr => ?_⟩ (fun g hg => ?_)
  · rw [h2.block k (by simp; omega) hr]; exact heap_alloc_old w _ hk
  · rcases h4 g hg with e | e
    · exact .inl e
    · refine .inr ?_
      simp at e
      omega
/-- 'append' of a move to a row of one's own. -/
theorem app_mv {ops : Array Oper} {rest : List Oper} {o : Oper} {a : Act} {Q : Exit → Act → World → Prop} {w : World} (hgd : o.guard = none) (s x : Operand) (y : Mv)
    (ho : o.op = .call { callee := .builtin .append, args := #[s, x], argTypes := #[61, 61] })
    (base : Nat) (v : Value) (l : List Mv) (hown : OM w base v l) (hs : a.eval s = v) (m : Nat) (hm : m = w.heap.size) (hx : a.eval x = .slice (some ⟨m, 0, none⟩) 1 1)
    (hn : l.length < 8796093022207) (hbase : base ≤ w.heap.size)
    (h : ∀ v' w', OM w' base v' (l ++ [y]) → w.grownBy w' v.ownBlock → Moved w v v' → wpList Try.prog ops Q rest (a.put o.dst v') w') :
    wpList Try.prog ops Q (o :: rest) a (w.alloc (.cells #[.int .i64 (y.1 : Int), .int .i64 (y.2 : Int)] 49)) := by
  refine wpList_appS hgd s x _ _ 2 16 _ _ ho Try.underlying61 info_mv rfl (by decide) base v l.length _ hs hown m hm hx rfl (by intro u hu; simp at hu; rcases hu with rfl | rfl <;> rfl) (by unfold maxLen; omega) (by omega) hbase fun v' w' h1 h2 h3 => h v' w' ?_ h2 h3
  unfold OM
  rw [mvsC_app, mvsC_one, List.length_append, List.length_singleton]
  exact h1

end Go.Proofs.Ytdkpdpcecjcmcaa
