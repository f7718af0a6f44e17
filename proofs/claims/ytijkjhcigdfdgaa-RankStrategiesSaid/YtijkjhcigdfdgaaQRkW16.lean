/- The memory of a climb's run: the set of those that wait, the measures. -/
import Derived.Test.YtijkjhcigdfdgaaQRkW15
import Derived.Test.YtijkjhcigdfdgaaQRkP8
namespace Go.Proofs.Ytijkjhcigdfdgaa
open Go.RowKit Go.Maps Go.WideMaps

theorem plainElem_bool_inv {H : Type} {P : Program} {e : TypeId} (he : P.underlying e = some .bool) {v : Value} {z : DataW H × List MemPlace} (h : plainElem P e v = some z) : ∃ x, v = .bool x ∧ z = (.lit (.bool x), []) := by
  unfold plainElem at h
  rw [he] at h
  cases v <;> simp at h
  exact ⟨_, rfl, h.symm⟩
theorem ownsMap_shrink {H : Type} {P : Program} {k : TypeId} {R : Value → Option (DataW H × List MemPlace)} {w : World} {b n : Nat} {D : DataW H} (h : w.ownsMap P k R b n D) : w.ownsMap P k R b (Maps.size D) D := by
  obtain ⟨es, clock, hb, F, -, rfl⟩ := h
  refine ⟨es, clock, hb, F, ?_, rfl⟩
  simp [Maps.size, length_sorted]
/-- Block b is the set of the numbers of a list. -/
def SetL (w : World) (b : Nat) (l : List Int) : Prop := ∃ D : DataW Unit, w.ownsMap Try.prog 3 (plainElem Try.prog 4) b l.length D ∧
  (∀ y, I64 y → Maps.has D (.int .i64 y) = decide (y ∈ l)) ∧ (∀ y, I64 y → D.atKey (.int .i64 y) (.lit (.bool false)) = .lit (.bool (decide (y ∈ l)))) ∧ Maps.size D = l.length
section
variable {w w' : World} {b : Nat} {l : List Int} {y : Int}
theorem SetL.kept {row : Option Nat} (h : SetL w b l) (hg : w.grownBy w' row) (hne : some b ≠ row) : SetL w' b l := by
  obtain ⟨D, h1, h2⟩ := h
  exact ⟨D, h1.kept hg hne, h2⟩
theorem SetL.lt (h : SetL w b l) : b < w.heap.size := by
  obtain ⟨D, h1, -⟩ := h
  exact h1.lt
theorem SetL.below (h : SetL w b l) (hb : Below w.heap.size w w') : SetL w' b l := h.kept (below_grown hb) (by simp)
theorem SetL.made (w : World) : SetL (w.alloc (.map #[] 0)) w.heap.size [] :=
  ⟨_, World.ownsMap_made w Try.prog 3 _, fun y _ => by simp [Maps.has], fun y _ => by simp [DataW.atKey], rfl⟩
set_option maxRecDepth 100000 in
theorem SetL.get (h : SetL w b l) (hy : I64 y) : (Instr.lookup 78 (.map (some b)) (.int .i64 y) false).run Try.prog w = .ok (.bool (decide (y ∈ l))) w := by
  obtain ⟨D, h1, -, h3, -⟩ := h
  have hz : (zeroValue 4).run Try.prog w = .ok (.bool false) w := by kernel_rfl
  obtain ⟨v, ps, hrun, hv⟩ := h1.lookup intKeyed Try.underlying78 hz (plainElem_bool Try.underlying4 false) (intKey hy)
  obtain ⟨x, rfl, hx⟩ := plainElem_bool_inv Try.underlying4 hv
  rw [h3 y hy] at hx
  have : decide (y ∈ l) = x := by simpa using congrArg Prod.fst hx
  rw [hrun, this]
set_option maxRecDepth 100000 in
theorem SetL.add (h : SetL w b l) (hy : I64 y) (hn : y ∉ l) (hl : l.length ≤ 3000) :
    ∃ w', (Instr.mapUpdate 78 (.map (some b)) (.int .i64 y) (.bool true)).run Try.prog w = .ok () w' ∧ SetL w' b (l ++ [y]) ∧ w.grownBy w' (some b) := by
  obtain ⟨D, h1, h2, h3, h4⟩ := h
  obtain ⟨w', hrun, r1, r2⟩ := h1.update intKeyed Try.underlying78 (by simp only [maxLen]; omega) (intKey hy) (plainElem_bool Try.underlying4 true)
  refine ⟨w', hrun, ⟨_, by rw [List.length_append, List.length_singleton]; exact r1, fun z hz => ?_, fun z hz => ?_, ?_⟩, r2⟩
  · by_cases e : z = y
    · subst e; rw [has_put_same h1.isMap (intIsKey hz)]; simp
    · rw [has_put_other (fun k => e (by injection k)), h2 z hz]; simp [e]
  · by_cases e : z = y
    · subst e; rw [atKey_put_same h1.isMap (intIsKey hz)]; simp
    · rw [atKey_put_other (fun k => e (by injection k)), h3 z hz]; simp [e]
  · rw [size_put (h1.tidy intKeyed), h2 y hy, decide_eq_false hn]
    simp [h4]
set_option maxRecDepth 100000 in
theorem SetL.del (h : SetL w b (y :: l)) (hy : I64 y) (hn : y ∉ l) (ty : TypeId) :
    ∃ w', (Builtin.delete_ #[78, 3] ty #[.map (some b), .int .i64 y]).run Try.prog w = .ok (.tuple #[]) w' ∧ SetL w' b l ∧ w.grownBy w' (some b) := by
  obtain ⟨D, h1, h2, h3, h4⟩ := h
  obtain ⟨w', hrun, r1, r2⟩ := h1.drop intKeyed Try.underlying78 (intKey hy) ty
  have hs : Maps.size (D.del (.int .i64 y)) = l.length := by
    have := size_del (k := .int .i64 y) (h1.tidy intKeyed)
    rw [h2 y hy] at this
    simp [h4] at this
    exact this
  refine ⟨w', hrun, ⟨_, by rw [← hs]; exact ownsMap_shrink r1, fun z hz => ?_, fun z hz => ?_, hs⟩, r2.grown⟩
  · by_cases e : z = y
    · subst e; rw [has_del_same, decide_eq_false hn]
    · rw [has_del_other (fun k => e (by injection k)), h2 z hz]; simp [e]
  · by_cases e : z = y
    · subst e; rw [atKey_del_same, decide_eq_false hn]
    · rw [atKey_del_other (fun k => e (by injection k)), h3 z hz]; simp [e]
end

/-- The measures as they lie. -/
def fL (f : Nat → Nat) (n : Nat) : List Int := (List.range n).map fun v => (f v : Int)
section
variable {f : Nat → Nat} {n v m : Nat}
theorem fL_len : (fL f n).length = n := by simp [fL]
theorem fL_at (h : v < n) : (fL f n).getD v 0 = (f v : Int) := by simp [fL, List.getD, h]
theorem fL_set : (fL f n).set v (m : Int) = fL (fun x => if x = v then m else f x) n := by
  apply List.ext_getElem (by simp [fL])
  intro i h1 h2
  rw [List.getElem_set]
  simp only [fL, List.getElem_map, List.getElem_range]
  by_cases e : v = i
  · subst e; rw [if_pos rfl, if_pos rfl]
  · rw [if_neg e, if_neg (fun h => e h.symm)]
theorem fL_zero : List.replicate n (0 : Int) = fL (fun _ => 0) n := by
  apply List.ext_getElem (by simp [fL])
  intro i h1 h2
  simp [fL]
end

/-- What of a climb stays in a run. -/
structure CX (W : World) (z ba n : Nat) (v0 v1 v2 v3 vu vb : Value) (Vb : Nat → Value) (g : Gm) (mo : List Nat) (bf : List (List Int)) : Prop where
  box : W.heap[z]? = some (.cells #[v0, v1, v2, v3, vu, .slice (some ⟨ba, 0, none⟩) n n, vb] 57 (0, 0))
  g : IsGame W (.agg #[v0, v1, v2]) g
  u : IsInts W vu (unitsL mo)
  b : IsArr W vb n Vb ∧ ∀ j, j < n → IsInts W (Vb j) (bf.getD j [])
/-- The memory in a run: H the set's block, Bx where the list of the next ones begins. -/
structure RS (w W : World) (ba n Bx : Nat) (f : Nat → Nat) (ml : List Int) (vx : Value) (nx : List Int) : Prop where
  o : Only (fun k => k = ba ∨ w.heap.size ≤ k) w W
  a : OC W 0 (.slice (some ⟨ba, 0, none⟩) n n) (fL f n)
  m : SetL W w.heap.size ml
  x : OI W Bx vx nx
  bx : w.heap.size < Bx ∧ Bx ≤ W.heap.size
section
variable {w W W' : World} {ba n Bx : Nat} {f : Nat → Nat} {ml nx : List Int} {vx vx' : Value}
theorem RS.balt (h : RS w W ba n Bx f ml vx nx) : ba < W.heap.size := (World.ownsRow.lt h.a ba rfl).2
theorem RS.below (h : RS w W ba n Bx f ml vx nx) (hb : Below W.heap.size W W') : RS w W' ba n Bx f ml vx nx :=
  ⟨h.o.trans (Only.of_below hb), h.a.below hb, h.m.below hb, h.x.below hb, by have := h.bx; have := hb.size; omega⟩
theorem RS.map (h : RS w W ba n Bx f ml vx nx) (hba : ba < w.heap.size) {ml' : List Int} (hm : SetL W' w.heap.size ml') (hg : W.grownBy W' (some w.heap.size)) : RS w W' ba n Bx f ml' vx nx := by
  have hbx := h.bx
  have hO : Only (fun k => k = w.heap.size) W W' := (Only.of_grown hg).mono fun k _ e => by cases e; rfl
  exact ⟨h.o.trans (hO.mono fun k _ e => .inr (by omega)), h.a.only hO fun k hk e => by have := ownB hk; omega, hm, h.x.only hO fun k hk e => by have := h.x.ge k hk; omega, by have := hg.size; omega⟩
theorem RS.push (h : RS w W ba n Bx f ml vx nx) (hba : ba < w.heap.size) {nx' : List Int} (hx : OI W' Bx vx' nx') (hg : W.grownBy W' vx.ownBlock) : RS w W' ba n Bx f ml vx' nx' := by
  have hbx := h.bx
  have hge := fun k (e : vx.ownBlock = some k) => h.x.ge k e
  have hO : Only (fun k => vx.ownBlock = some k) W W' := Only.of_grown hg
  exact ⟨h.o.trans (hO.mono fun k _ e => .inr (by have := hge k e; omega)), h.a.only hO fun k hk e => by have := ownB hk; have := hge k e; omega, h.m.kept hg (fun e => by have := hge _ e.symm; omega), hx, by have := hg.size; omega⟩
theorem RS.put (h : RS w W ba n Bx f ml vx nx) (hba : ba < w.heap.size) {v m : Nat} : RS w (W.setCell ⟨ba, v, none⟩ (.int .i64 (m : Int))) ba n Bx (fun x => if x = v then m else f x) ml vx nx := by
  have hbx := h.bx
  have hO : Only (fun k => k = ba) W (W.setCell ⟨ba, v, none⟩ (.int .i64 (m : Int))) := Only.set ba v _ rfl
  refine ⟨h.o.trans (hO.mono fun k _ e => .inl e), ?_, h.m.kept (grown_set W ba v _) (fun e => by have := Option.some.inj e; omega), h.x.only hO fun k hk e => by have := h.x.ge k hk; omega, by simpa using hbx⟩
  have := h.a.set fL_len.symm v (m : Int)
  rw [fL_set] at this
  exact this
/-- The list of the next ones begins anew. -/
theorem RS.fresh (h : RS w W ba n Bx f ml vx nx) : RS w W ba n W.heap.size f ml (.slice none 0 0) [] := ⟨h.o, h.a, h.m, OI_nil _ _, by have := h.bx; omega⟩
theorem RS.is (h : RS w W ba n Bx f ml vx nx) (hn : nx.length ≤ 3000) (hr : ∀ x ∈ nx, ∃ v : Nat, x = (v : Int) ∧ v < n) (hn3 : n ≤ 3000) : IsInts W vx nx :=
  h.x.is (by unfold maxN; omega) fun x hx => by obtain ⟨v, rfl, hv⟩ := hr x hx; unfold I64; omega
theorem RS.at (h : RS w W ba n Bx f ml vx nx) (hn3 : n ≤ 3000) (hf : ∀ v, v < n → f v ≤ 2000000) : IsInts W (.slice (some ⟨ba, 0, none⟩) n n) (fL f n) :=
  h.a.is (by rw [fL_len]; unfold maxN; omega) fun x hx => by
    obtain ⟨v, hv, rfl⟩ := List.mem_map.1 hx
    have := hf v (List.mem_range.1 hv)
    unfold I64; omega
end

end Go.Proofs.Ytijkjhcigdfdgaa
