/- A map from moves to numbers, of a call's own. Jobs: sets of moves with bounds; what becomes of one (plain); a stack of jobs in memory. -/
import Derived.Test.YtdkpdpcecjcmcaaQRd5
import Derived.Test.YtdkpdpcecjcmcaaQRegP
import Derived.Test.YtdkpdpcecjcmcaaQRd10
import Derived.Test.YtdkpdpcecjcmcaaQRd12
namespace Go.Proofs.Ytdkpdpcecjcmcaa
open Go.RowKit Go.Maps Go.WideMaps

def mvV (y : Mv) : Value := .agg #[.int .i64 (y.1 : Int), .int .i64 (y.2 : Int)]
def WfM (y : Mv) : Prop := y.1 ≤ 1000000 ∧ y.2 ≤ 1000000
noncomputable def klM (y : Mv) : Lit := (keyOf Try.prog 49 (mvV y)).getD (.bool false)
theorem moveLaid : laidOutB Try.prog = true := by kernel_rfl
theorem moveRow : 49 < Try.prog.types.size := of_decide_eq_true (by kernel_rfl)
theorem moveWide : (match Try.prog.underlying 49 with | some (.array _ _) | some (.struct _) => true | _ => false) = true := by kernel_rfl
set_option maxRecDepth 100000 in
theorem moveKT : Try.prog.keyTypeAt 2 49 = true := by kernel_rfl
set_option maxRecDepth 100000 in
theorem moveKeyed : Keyed Try.prog 49 := Keyed.of_law (deep_law_laid moveLaid (m := 2) (by omega) moveRow moveKT moveWide)
theorem moveKey : Try.prog.keyType 49 = true := by kernel_rfl
theorem moveCells : Try.prog.cellsOf 49 = 2 := by kernel_rfl
theorem intCells1 : Try.prog.cellsOf 3 = 1 := by kernel_rfl
theorem litN_wf {a : Nat} (h : a ≤ 1000000) : (Lit.int .i64 (a : Int)).wf = true := WalkArith.wf_i64 (by omega)
theorem mvKey (y : Mv) (h : WfM y) : keyOf Try.prog 49 (mvV y) = some (klM y) := by
  have hs : (keyOf Try.prog 49 (mvV y)).isSome = true := by
    obtain ⟨a, b⟩ := y
    obtain ⟨ha, hb⟩ := h
    have wa := litN_wf ha
    have wb := litN_wf hb
    have hf : (mvV (a, b)).formed Try.prog 49 = true := by simp [mvV, Value.formed, Try.underlying49, moveCells]
    obtain ⟨m, hm⟩ : ∃ m, Try.prog.types.size = m + 1 := ⟨Try.prog.types.size - 1, by have := moveRow; omega⟩
    unfold keyOf
    rw [moveKey, hf, hm]
    simp only [Try.underlying49, Bool.and_self, if_true, Option.isSome_map]
    simp [Program.keyLits, Try.underlying49, Try.underlying3, moveCells, intCells1, mvV, Value.cells, wa, wb]
  obtain ⟨k, hk⟩ := Option.isSome_iff_exists.1 hs
  unfold klM
  rw [hk]; rfl
theorem mvV_inj {y z : Mv} (h : mvV y = mvV z) : y = z := by
  obtain ⟨a, b⟩ := y
  obtain ⟨a', b'⟩ := z
  simp only [mvV, Value.agg.injEq, Array.mk.injEq, List.cons.injEq, Value.int.injEq, true_and, and_true] at h
  obtain ⟨h1, h2⟩ := h
  rw [show a = a' by omega, show b = b' by omega]
theorem klM_inj {y z : Mv} (hy : WfM y) (hz : WfM z) (h : klM y = klM z) : y = z := by
  have h1 := mvKey y hy
  have h2 := mvKey z hz
  rw [← h] at h2
  generalize klM y = k at *
  exact mvV_inj (Keyed.inj moveKeyed h1 h2)
theorem klM_key {y : Mv} (hy : WfM y) : ∃ k, klM y = k ∧ Go.WideAt.IsKeyLit k := by
  have h1 := mvKey y hy
  generalize klM y = k at *
  exact ⟨k, rfl, Keyed.key moveKeyed h1⟩

/-- Block b is a map with the keys l and the values f. -/
def MapM (w : World) (b : Nat) (l : List Mv) (f : Mv → Int) : Prop := ∃ D : DataW Unit, w.ownsMap Try.prog 49 (plainElem Try.prog 3) b l.length D ∧ IsMap D ∧
  (∀ y, WfM y → Maps.has D (klM y) = decide (y ∈ l)) ∧ ∀ y, WfM y → y ∈ l → D.atKey (klM y) (.lit (.int .i64 0)) = .lit (.int .i64 (f y))
section
variable {w w' : World} {b : Nat} {l : List Mv} {f : Mv → Int} {y : Mv}
theorem MapM.blk (h : MapM w b l f) (e : w'.heap[b]? = w.heap[b]?) : MapM w' b l f := by
  obtain ⟨D, ⟨es, c, h1, h2⟩, h3⟩ := h
  exact ⟨D, ⟨es, c, e.trans h1, h2⟩, h3⟩
theorem MapM.lt (h : MapM w b l f) : b < w.heap.size := by
  obtain ⟨D, h1, -⟩ := h
  exact h1.lt
theorem MapM.below (h : MapM w b l f) (hb : Below w.heap.size w w') : MapM w' b l f := h.blk (hb.block _ h.lt)
theorem MapM.only {S : Nat → Prop} (h : MapM w b l f) (ho : Only S w w') (hS : ¬ S b) : MapM w' b l f := h.blk (ho.block _ h.lt hS)
theorem MapM.made (w : World) (f : Mv → Int) : MapM (w.alloc (.map #[] 0)) w.heap.size [] f :=
  ⟨_, World.ownsMap_made w Try.prog 49 _, isMap_empty, fun y _ => by simp [Maps.has], fun y _ hy => absurd hy (by simp)⟩
set_option maxRecDepth 100000 in
theorem MapM.get (h : MapM w b l f) (hy : WfM y) (hm : y ∈ l) : (Instr.lookup 46 (.map (some b)) (mvV y) false).run Try.prog w = .ok (.int .i64 (f y)) w := by
  obtain ⟨D, h1, h2, h3, h4⟩ := h
  obtain ⟨v, ps, hrun, hv⟩ := h1.lookup moveKeyed Try.underlying46 (zero_int w) (plainElem_int Try.underlying3 (q := .i64) (a := 0) rfl) (mvKey y hy)
  obtain ⟨c, rfl, hc, hwc⟩ := plainElem_int_inv Try.underlying3 hv
  simp only [Prod.mk.injEq] at hc
  have h5 := h4 y hy hm
  rw [hc.1] at h5
  simp only [DataW.lit.injEq, Lit.int.injEq, true_and] at h5
  rw [hrun, h5]
set_option maxRecDepth 100000 in
theorem MapM.upd (h : MapM w b l f) (hy : WfM y) (hn : y ∉ l) (hl : l.length ≤ 1000000) {x : Int} (hx : I64 x) :
    ∃ w', (Instr.mapUpdate 46 (.map (some b)) (mvV y) (.int .i64 x)).run Try.prog w = .ok () w' ∧ MapM w' b (l ++ [y]) (fun z => if z = y then x else f z) ∧ w.grownBy w' (some b) := by
  obtain ⟨D, h1, h2, h3, h4⟩ := h
  obtain ⟨w', hrun, r1, r2⟩ := h1.update moveKeyed Try.underlying46 (by simp only [maxLen]; omega) (mvKey y hy) (plainElem_int Try.underlying3 (q := .i64) (a := x) (lit_wf hx))
  refine ⟨w', hrun, ⟨_, by rw [List.length_append, List.length_singleton]; exact r1, h2.put _ _, fun z hz => ?_, fun z hz hzl => ?_⟩, r2⟩
  · by_cases e : z = y
    · subst e
      obtain ⟨k, e, hk⟩ := klM_key hz
      rw [e, has_put_same h2 hk]; simp
    · rw [has_put_other (fun k => e (klM_inj hz hy k)), h3 z hz]
      simp [e]
  · by_cases e : z = y
    · subst e
      obtain ⟨k, e, hk⟩ := klM_key hz
      rw [e, atKey_put_same h2 hk]
      simp
    · have hzl' : z ∈ l := by
        rcases List.mem_append.1 hzl with h | h
        · exact h
        · exact absurd (List.mem_singleton.1 h) e
      rw [atKey_put_other (fun k => e (klM_inj hz hy k)), h4 z hz hzl']
      simp [e]
end

end Go.Proofs.Ytdkpdpcecjcmcaa

namespace Go.Proofs.Ytdkpdpcecjcmcaa
open Go.RowKit

/-- A job: what its moves get, the whole gives them. -/
abbrev Job := List Mv × Int
section
variable (tg : Mv → Nat) (pr : Mv → Int) (all : Mv → Prop)
/-- Where the work stands: the jobs, the moves that have their values. -/
structure JInv (jobs : List Job) (keys : List Mv) (f : Mv → Int) : Prop where
  nd : keys.Nodup ∧ (∀ j ∈ jobs, j.1.Nodup)
  dj : jobs.Pairwise fun i j => ∀ m ∈ i.1, m ∉ j.1
  dk : ∀ j ∈ jobs, ∀ m ∈ j.1, m ∉ keys
  cv : ∀ m, all m ↔ m ∈ keys ∨ ∃ j ∈ jobs, m ∈ j.1
  vl : ∀ m ∈ keys, ValP tg pr all 0 m (f m)
  go : ∀ j ∈ jobs, ∀ m ∈ j.1, ∀ v, ValP tg pr (· ∈ j.1) j.2 m v → ValP tg pr all 0 m v
  ne : ∀ j ∈ jobs, j.1 ≠ []
end
section
variable {tg : Mv → Nat} {pr : Mv → Int} {l c os rs : List Mv} {comps : List (List Mv)} {b k t v : Int} {m : Mv}
/-- A move outside all components. -/
theorem Grp.out (h : Grp tg l comps os) (hm : m ∈ os) : ValP tg pr (· ∈ l) b m b := .out ((h.ot m).1 hm).1 ((h.ot m).1 hm).2
/-- k is the least priority of a component, t that of the other parity (or more). -/
structure LowC (pr : Mv → Int) (c : List Mv) (k t : Int) : Prop where
  ex : ∃ m ∈ c, pr m = k
  le : ∀ m ∈ c, k ≤ pr m
  lt : k < t
  par : ∀ m ∈ c, pr m < t → pr m % 2 = k % 2
theorem Grp.low (h : Grp tg l comps os) (hc : c ∈ comps) (hl : LowC pr c k t) (hm : m ∈ c) (ht : pr m < t) : ValP tg pr (· ∈ l) b m (qB b k) := by
  obtain ⟨m0, h0, hmem⟩ := h.cs c hc
  have hi : InC tg (· ∈ l) m0 m := (hmem m).1 hm
  have hsame := InC.same h0 hi
  have hon : OnC tg (· ∈ l) m := OnC.of hi
  refine .least (t := t) hon ⟨?_, fun x hx => hl.le x ((hmem x).2 (by rw [hsame]; exact hx))⟩ (fun x hx => hl.par x ((hmem x).2 (by rw [hsame]; exact hx))) ht
  obtain ⟨x, hx, e⟩ := hl.ex
  exact ⟨x, by rw [← hsame]; exact (hmem x).1 hx, e⟩
theorem Grp.rest (h : Grp tg l comps os) (hc : c ∈ comps) (hl : LowC pr c k t) (hr : ∀ x, x ∈ rs ↔ x ∈ c ∧ t ≤ pr x) (hm : m ∈ rs) (hv : ValP tg pr (· ∈ rs) (qB b k) m v) : ValP tg pr (· ∈ l) b m v := by
  obtain ⟨m0, h0, hmem⟩ := h.cs c hc
  have hm' := (hr m).1 hm
  have hi : InC tg (· ∈ l) m0 m := (hmem m).1 hm'.1
  have hsame := InC.same h0 hi
  have hon : OnC tg (· ∈ l) m := OnC.of hi
  have e : (fun x => InC tg (· ∈ l) m x ∧ t ≤ pr x) = (· ∈ rs) := funext fun x => propext (by rw [hr x, ← hsame, hmem x])
  refine .rest (t := t) (k := k) hon ⟨?_, fun x hx => hl.le x ((hmem x).2 (by rw [hsame]; exact hx))⟩ (fun x hx => hl.par x ((hmem x).2 (by rw [hsame]; exact hx))) hl.lt hm'.2 (by rw [e]; exact hv)
  obtain ⟨x, hx, ex⟩ := hl.ex
  exact ⟨x, by rw [← hsame]; exact (hmem x).1 hx, ex⟩
end

/-! A stack of jobs in memory. -/
def jobsC (l : List (Value × Int)) : List Value := l.flatMap fun p => [p.1, .int .i64 p.2]
theorem jobsC_len (l : List (Value × Int)) : (jobsC l).length = l.length * 2 := by
  induction l with
  | nil => rfl
  | cons s r ih => simp only [jobsC, List.flatMap_cons, List.length_append, List.length_cons] at *; rw [ih]; simp; omega
theorem jobsC_get (l : List (Value × Int)) (j k : Nat) (hj : j < l.length) (hk : k < 2) : (jobsC l)[j * 2 + k]? = ([l[j].1, .int .i64 l[j].2] : List Value)[k]? := by
  induction l generalizing j with
  | nil => simp at hj
  | cons s r ih =>
    simp only [jobsC, List.flatMap_cons] at *
    cases j with
    | zero => rw [List.getElem?_append_left (by simp; omega)]; simp
    | succ j =>
      rw [List.getElem?_append_right (by simp; omega)]
      have := ih j (by simpa using hj)
      simp only [List.length_cons, List.length_nil, List.getElem_cons_succ] at this ⊢
      rw [← this]
      congr 1
      omega
theorem jobsC_app (a b : List (Value × Int)) : jobsC (a ++ b) = jobsC a ++ jobsC b := by simp [jobsC]
/-- A row of jobs of one's own. -/
def OJ (w : World) (base : Nat) (v : Value) (l : List (Value × Int)) : Prop := w.ownsRow base 65 2 v l.length (jobsC l)
theorem info_job : (Try.prog.info? 65).map (fun i => (i.zero, i.size, i.bytes)) = some (some (.agg #[.slice none 0 0, .int .i64 0]), 2, 32) := by kernel_rfl
/-- 'append' of a job to a row of one's own. -/
theorem app_job {ops : Array Oper} {rest : List Oper} {o : Oper} {a : Act} {Q : Exit → Act → World → Prop} {w : World} (hgd : o.guard = none) (s x : Operand) (y : Value) (q : Int) (hy : y.oneCell' = true)
    (ho : o.op = .call { callee := .builtin .append, args := #[s, x], argTypes := #[66, 66] })
    (base : Nat) (v : Value) (l : List (Value × Int)) (hown : OJ w base v l) (hs : a.eval s = v) (m : Nat) (hm : m = w.heap.size) (hx : a.eval x = .slice (some ⟨m, 0, none⟩) 1 1)
    (hn : l.length < 4000000000000) (hbase : base ≤ w.heap.size)
    (h : ∀ v' w', OJ w' base v' (l ++ [(y, q)]) → w.grownBy w' v.ownBlock → Moved w v v' → wpList Try.prog ops Q rest (a.put o.dst v') w') :
    wpList Try.prog ops Q (o :: rest) a (w.alloc (.cells #[y, .int .i64 q] 65)) := by
  refine wpList_appS hgd s x _ _ 2 32 _ _ ho Try.underlying66 info_job rfl (by decide) base v l.length _ hs hown m hm hx rfl (by intro u hu; simp at hu; rcases hu with rfl | rfl; exact hy; rfl) (by unfold maxLen; omega) (by omega) hbase fun v' w' h1 h2 h3 => h v' w' ?_ h2 h3
  unfold OJ
  rw [jobsC_app, List.length_append, List.length_singleton]
  exact h1
section
variable {w w' : World} {bs : Nat} {v : Value} {l : List (Value × Int)}
theorem OJ.slice (h : OJ w bs v l) : ∃ ao cap, v = .slice ao l.length cap := ownsRow_slice h
theorem OJ.ge (h : OJ w bs v l) : ∀ g, v.ownBlock = some g → bs ≤ g := fun g hg => (World.ownsRow.lt h g hg).1
theorem OJ.lt' (h : OJ w bs v l) : ∀ g, v.ownBlock = some g → g < w.heap.size := fun g hg => (World.ownsRow.lt h g hg).2
theorem OJ.only {S : Nat → Prop} (h : OJ w bs v l) (ho : Only S w w') (hS : ∀ k, v.ownBlock = some k → ¬ S k) : OJ w' bs v l := ownsRow_only h ho hS
theorem OJ.below (h : OJ w bs v l) (hb : Below w.heap.size w w') : OJ w' bs v l := h.only (S := fun _ => False) (Only.of_below hb) fun _ _ => id
theorem OJ.at' {g n cap : Nat} (h : OJ w bs (.slice (some ⟨g, 0, none⟩) n cap) l) {j : Nat} (hj : j < l.length) : w.cell? ⟨g, j * 2, none⟩ = some l[j].1 ∧ w.cell? ⟨g, j * 2 + 1, none⟩ = some (.int .i64 l[j].2) := by
  have hn : n = l.length := by
    obtain ⟨ao, c, e⟩ := ownsRow_slice h
    injection e
  subst hn
  have hc : ∀ k, k < 2 → w.cell? ⟨g, j * 2 + k, none⟩ = ([l[j].1, .int .i64 l[j].2] : List Value)[k]? := fun k hk => by
    rw [World.ownsRow.cellAt h (j * 2 + k) (by omega), jobsC_get l j k hj hk]
  exact ⟨hc 0 (by omega), hc 1 (by omega)⟩
/-- The head of the row. -/
theorem OJ.cut {g n cap : Nat} (h : OJ w bs (.slice (some ⟨g, 0, none⟩) n cap) l) {k : Nat} (hk : k ≤ l.length) : OJ w bs (.slice (some ⟨g, 0, none⟩) k cap) (l.take k) ∧ n ≤ cap := by
  have hl : (l.take k).length = k := by rw [List.length_take]; omega
  unfold OJ at h ⊢
  rw [hl]
  rcases h.2 with ⟨h', _⟩ | ⟨g', cap', cur, hv, hb, hg, hnc, hcm, hcs, ht⟩
  · cases h'
  · have hv' := hv
    injection hv' with h1 h2 h3
    refine ⟨⟨by rw [jobsC_len, hl], .inr ⟨g', cap', cur, by rw [h1, h3], hb, hg, by omega, hcm, hcs, ?_⟩⟩, by rw [h2, h3]; exact hnc⟩
    have e : (jobsC l).take (k * 2) = jobsC (l.take k) := by
      have h4 : jobsC l = jobsC (l.take k) ++ jobsC (l.drop k) := by rw [← jobsC_app, List.take_append_drop]
      rw [h4, List.take_left' (by rw [jobsC_len, hl])]
    rw [← e, ← ht, List.take_take, Nat.min_eq_left (by omega)]
end

end Go.Proofs.Ytdkpdpcecjcmcaa
