/- The beginning of a climb. -/
import Derived.BigRegion
import Derived.StillTailTactics
import Derived.Deep.CutBlock
import Derived.Test.YtijkjhcigdfdgaaQRkW15a
namespace Go.Proofs.Ytijkjhcigdfdgaa
open Go.RowKit

/-- Numbers of measures of the call's own. -/
def OC (w : World) (base : Nat) (v : Value) (l : List Int) : Prop := w.ownsRow base 58 1 v l.length (l.map (Value.int .i64))
theorem info_code : (Try.prog.info? 58).map (fun i => (i.zero, i.size, i.bytes)) = some (some (.int .i64 0), 1, 8) := by kernel_rfl
section
variable {w w' : World} {B : Nat} {v : Value} {l : List Int}
theorem OC.only {S : Nat → Prop} (h : OC w B v l) (hg : Only S w w') (hne : ∀ k, v.ownBlock = some k → ¬ S k) : OC w' B v l := ownsRow_only h hg hne
theorem OC.below (h : OC w B v l) (hb : Below w.heap.size w w') : OC w' B v l := World.ownsRow.kept h (below_grown hb) (by cases v.ownBlock <;> simp)
theorem OC.is (h : OC w B v l) (hn : l.length ≤ maxN) (hi : ∀ x ∈ l, I64 x) : IsInts w v l := ⟨ownsRow_arr h hn _ fun j hj => by simp [ivF, hj], hi⟩
theorem OC.at' {g n cap : Nat} (h : OC w B (.slice (some ⟨g, 0, none⟩) n cap) l) (hn : n = l.length) (j : Nat) (hj : j < l.length) : w.cell? ⟨g, j, none⟩ = some (.int .i64 (l.getD j 0)) := by
  subst hn
  rw [World.ownsRow.cellAt h j (by omega)]; simp [hj]
theorem OC.fz {g n cap : Nat} (h : OC w B (.slice (some ⟨g, 0, none⟩) n cap) l) (hn : n = l.length) (j : Nat) : w.frozen? ⟨g, j, none⟩ = false := by
  subst hn
  exact World.ownsRow.frozenAt h j
theorem OC.set {g n cap : Nat} (h : OC w B (.slice (some ⟨g, 0, none⟩) n cap) l) (hn : n = l.length) (j : Nat) (b : Int) :
    OC (w.setCell ⟨g, j, none⟩ (.int .i64 b)) B (.slice (some ⟨g, 0, none⟩) n cap) (l.set j b) := by
  subst hn
  have := (World.ownsRow.stored h j (.int .i64 b)).1
  unfold OC
  simpa using this
theorem OC.row (h : OC w B v l) : ∀ g, v.ownBlock = some g → B ≤ g ∧ g < w.heap.size := fun g hg => World.ownsRow.lt h g hg
theorem OC_made {g n : Nat} (h : w.heap[g]? = some (.cells (madeCells #[.int .i64 0] n) 58 (0, 0))) (hb : B ≤ g) (hn : n ≤ 3000) : OC w B (.slice (some ⟨g, 0, none⟩) n n) (List.replicate n 0) := by
  refine ⟨by simp, .inr ⟨g, n, _, ?_, hb, h, ?_, by simp only [maxLen]; omega, by simp [size_madeCells], ?_⟩⟩
  · simp
  · simp
  · rw [toList_madeCells_one]; simp
theorem OI_made2 {g n : Nat} (h : w.heap[g]? = some (.cells (madeCells #[.int .i64 0] n) 3 (0, 0))) (hb : B ≤ g) (hn : n ≤ 20000) : OI w B (.slice (some ⟨g, 0, none⟩) n n) (List.replicate n 0) := by
  refine ⟨by simp, .inr ⟨g, n, _, ?_, hb, h, ?_, by simp only [maxLen]; omega, by simp [size_madeCells], ?_⟩⟩
  · simp
  · simp
  · rw [toList_madeCells_one]; simp
end

theorem drewN_heap (w : World) (n : Nat) : (w.drewN n).heap = w.heap := rfl
/-- What newClimb has made. -/
structure NC0 (w wr : World) (n d z bu ba ob : Nat) (v0 v1 v2 v3 : Value) : Prop where
  bx : Below w.heap.size w wr
  g : wr.heap[w.heap.size]? = some (.cells #[v0, v1, v2, v3] 49 (0, 0))
  box : wr.heap[z]? = some (.cells #[v0, v1, v2, v3, .slice (some ⟨bu, 0, none⟩) (d + 1) (d + 1), .slice (some ⟨ba, 0, none⟩) n n, .slice (some ⟨ob, 0, none⟩) n n] 57 (0, 0))
  ru : wr.heap[bu]? = some (.cells (madeCells #[.int .i64 0] (d + 1)) 3 (0, 0))
  ra : wr.heap[ba]? = some (.cells (madeCells #[.int .i64 0] n) 58 (0, 0))
  ro : wr.heap[ob]? = some (.cells (madeCells #[.slice none 0 0] n) 22 (0, 0))
  ne : bu ≠ ba ∧ bu ≠ ob ∧ ba ≠ ob ∧ z ≠ bu ∧ z ≠ ba ∧ z ≠ ob
  gt : w.heap.size < z ∧ w.heap.size < bu ∧ w.heap.size < ba ∧ w.heap.size < ob
/-- What is known in the loops of newClimb. -/
structure NC (w wr : World) (n d z bu ba ob : Nat) (v0 v1 v2 v3 : Value) (vals : List Value) (un : List Int) (bf : List (List Int)) : Prop where
  bx : Below w.heap.size w wr
  g : wr.heap[w.heap.size]? = some (.cells #[v0, v1, v2, v3] 49 (0, 0))
  box : wr.heap[z]? = some (.cells #[v0, v1, v2, v3, .slice (some ⟨bu, 0, none⟩) (d + 1) (d + 1), .slice (some ⟨ba, 0, none⟩) n n, .slice (some ⟨ob, 0, none⟩) n n] 57 (0, 0))
  U : OI wr (w.heap.size + 1) (.slice (some ⟨bu, 0, none⟩) (d + 1) (d + 1)) un
  A : OC wr (w.heap.size + 1) (.slice (some ⟨ba, 0, none⟩) n n) (List.replicate n 0)
  R : Rows wr (w.heap.size + 1) n ob vals bf
  lu : un.length = d + 1
  ne : bu ≠ ba ∧ bu ≠ ob ∧ ba ≠ ob ∧ z ≠ bu ∧ z ≠ ba ∧ z ≠ ob
  gt : w.heap.size < z ∧ w.heap.size < bu ∧ w.heap.size < ba ∧ w.heap.size < ob
  x : ∀ j, j < n → ∀ b, (vals.getD j undef).ownBlock = some b → b ≠ z ∧ b ≠ bu ∧ b ≠ ba
section
variable {w wr w' : World} {n d z bu ba ob : Nat} {v0 v1 v2 v3 : Value} {vals : List Value} {un : List Int} {bf : List (List Int)}
theorem NC0.begin (h : NC0 w wr n d z bu ba ob v0 v1 v2 v3) (hn : n ≤ 3000) (hd : d + 1 ≤ 20000) : NC w wr n d z bu ba ob v0 v1 v2 v3 (List.replicate n (.slice none 0 0)) (List.replicate (d + 1) 0) (List.replicate n []) := by
  have hg := h.gt
  exact { bx := h.bx, g := h.g, box := h.box, U := OI_made2 h.ru (by omega) hd, A := OC_made h.ra (by omega) hn, R := Rows.made h.ro (by omega) hn, lu := by simp, ne := h.ne, gt := h.gt
          x := fun j hj b hb => by simp [List.getD, hj, Value.ownBlock] at hb }
theorem NC.lt (h : NC w wr n d z bu ba ob v0 v1 v2 v3 vals un bf) : z < wr.heap.size ∧ bu < wr.heap.size ∧ ba < wr.heap.size ∧ ob < wr.heap.size ∧ w.heap.size < wr.heap.size :=
  ⟨(Array.getElem?_eq_some_iff.1 h.box).1, h.U.lt' bu rfl, (World.ownsRow.lt h.A ba rfl).2, h.R.row.2, (Array.getElem?_eq_some_iff.1 h.g).1⟩
theorem NC.setU (h : NC w wr n d z bu ba ob v0 v1 v2 v3 vals un bf) (j : Nat) (b : Int) : NC w (wr.setCell ⟨bu, j, none⟩ (.int .i64 b)) n d z bu ba ob v0 v1 v2 v3 vals (un.set j b) bf := by
  have ho : Only (fun k => k = bu) wr (wr.setCell ⟨bu, j, none⟩ (.int .i64 b)) := Only.set bu j _ rfl
  have hn := h.ne
  have hg := h.gt
  have hl := h.lt
  exact { h with
    bx := h.bx.setCell (by show w.heap.size ≤ bu; omega) _
    g := (ho.block _ hl.2.2.2.2 (by omega)).trans h.g
    box := (ho.block _ hl.1 (by omega)).trans h.box
    U := h.U.set h.lu.symm j b
    A := h.A.only ho fun k hk e => by have := ownB hk; omega
    R := h.R.only ho (by omega) fun i hi b hb e => (h.x i hi b hb).2.1 e
    lu := by rw [List.length_set]; exact h.lu }
theorem NC.below (h : NC w wr n d z bu ba ob v0 v1 v2 v3 vals un bf) (hb : Below wr.heap.size wr w') : NC w w' n d z bu ba ob v0 v1 v2 v3 vals un bf := by
  have ho : Only (fun _ => False) wr w' := Only.of_below hb
  have hl := h.lt
  exact { h with
    bx := h.bx.trans (hb.mono h.bx.size)
    g := (hb.block _ hl.2.2.2.2).trans h.g
    box := (hb.block _ hl.1).trans h.box
    U := h.U.below hb
    A := h.A.below hb
    R := h.R.only ho (fun e => e) fun _ _ _ _ e => e }
theorem NC.row (h : NC w wr n d z bu ba ob v0 v1 v2 v3 vals un bf) {v' : Value} {u : Nat} {l : List Int} (hu : u < n) (hv : OI w' (w.heap.size + 1) v' l) (hg : wr.grownBy w' (vals.getD u undef).ownBlock) (hm : Moved wr (vals.getD u undef) v') :
    w'.cell? ⟨ob, u, none⟩ = some (vals.getD u undef) ∧ w'.frozen? ⟨ob, u, none⟩ = false ∧ NC w (w'.setCell ⟨ob, u, none⟩ v') n d z bu ba ob v0 v1 v2 v3 (vals.set u v') un (bf.set u l) := by
  obtain ⟨r1, r2, r3⟩ := h.R.push hu hv hg hm
  have ho1 : Only (fun k => (vals.getD u undef).ownBlock = some k) wr w' := Only.of_grown hg
  have ho2 : Only (fun k => k = ob) w' (w'.setCell ⟨ob, u, none⟩ v') := Only.set ob u v' rfl
  have ho : Only (fun k => (vals.getD u undef).ownBlock = some k ∨ k = ob) wr (w'.setCell ⟨ob, u, none⟩ v') := (ho1.mono fun _ _ e => .inl e).trans (ho2.mono fun _ _ e => .inr e)
  have hn := h.ne
  have hgt := h.gt
  have hl := h.lt
  have hx := h.x u hu
  have hge := fun k (e : (vals.getD u undef).ownBlock = some k) => (h.R.e u hu).ge k e
  refine ⟨r1, r2, { h with
    bx := h.bx.trans (ho.below _ (fun k hk => by rcases hk with e | e; have := hge k e; omega; omega) h.bx.size)
    g := (ho.block _ hl.2.2.2.2 (fun e => by rcases e with e | e; have := hge _ e; omega; omega)).trans h.g
    box := (ho.block _ hl.1 (fun e => by rcases e with e | e; exact (hx _ e).1 rfl; omega)).trans h.box
    U := h.U.only ho fun k hk e => by have := ownB hk; subst this; rcases e with e | e; exact (hx _ e).2.1 rfl; omega
    A := h.A.only ho fun k hk e => by have := ownB hk; subst this; rcases e with e | e; exact (hx _ e).2.2 rfl; omega
    R := r3
    x := fun j hj b hb => ?_ }⟩
  have hlv : u < vals.length := by rw [h.R.lv]; exact hu
  by_cases e : u = j
  · subst e
    rw [getD_set_eq _ _ _ _ hlv] at hb
    rcases hm b hb with e | e
    · exact hx b e
    · omega
  · rw [getD_set_ne _ _ _ _ _ e] at hb
    exact h.x j hj b hb
end

/-- The units behind some rounds. -/
def unRow (mo : List Nat) (k : Nat) : List Int := (List.range (mo.length + 1)).map fun j => if j < k then 0 else (unitN mo j : Int)
section
variable {mo : List Nat} {k : Nat}
theorem unRow_len : (unRow mo k).length = mo.length + 1 := by simp [unRow]
theorem unRow_start : (List.replicate (mo.length + 1) (0 : Int)).set mo.length 1 = unRow mo mo.length := by
  apply List.ext_getElem (by simp [unRow])
  intro i h1 h2
  have hi : i < mo.length + 1 := by simpa [unRow] using h2
  rw [List.getElem_set]
  simp only [unRow, List.getElem_map, List.getElem_range, List.getElem_replicate]
  by_cases e : mo.length = i
  · subst e; rw [if_pos rfl, if_neg (by omega), unit_end (Nat.le_refl _)]; rfl
  · rw [if_neg e, if_pos (by omega)]
theorem unRow_step : (unRow mo (k + 1)).set k (unitN mo k : Int) = unRow mo k := by
  apply List.ext_getElem (by simp [unRow])
  intro i h1 h2
  rw [List.getElem_set]
  simp only [unRow, List.getElem_map, List.getElem_range]
  by_cases e : k = i
  · subst e; rw [if_pos rfl, if_neg (by omega)]
  · rw [if_neg e]
    by_cases h3 : i < k
    · rw [if_pos h3, if_pos (by omega)]
    · rw [if_neg h3, if_neg (by omega)]
theorem unRow_at (hk : k < mo.length) : (unRow mo (k + 1)).getD (k + 1) 0 = (unitN mo (k + 1) : Int) := by simp [unRow, List.getD, hk]
theorem unRow_end : unRow mo 0 = unitsL mo := by simp [unRow, unitsL]
end

def NewClimb (w : World) (n d : Nat) (v0 v1 v2 v3 : Value) (g : Gm) (mo : List Nat) (e : Ending) (w' : World) : Prop :=
  ∃ z bu ba ob vals, e = .returned (.pointer (some ⟨z, 0, none⟩)) ∧ NC w w' n d z bu ba ob v0 v1 v2 v3 vals (unitsL mo) (nsBf g n n)

set_option maxRecDepth 100000 in
set_option maxHeartbeats 8000000 in
theorem newClimb_c (w : World) (v0 v1 v2 v3 : Value) (g : Gm) (mo : List Nat) (n : Nat) (hg : IsGame w (.agg #[v0, v1, v2]) g) (hM : IsInts w v3 (castM mo)) (h1 : g.owner.length = n) (h2 : g.prio.length = n) (h3 : g.succ.length = n) (hn : n ≤ 3000) (hS : ∀ i, (g.succ.getD i []).length ≤ 1000) (hE : RE g n) (hl : mo.length ≤ 15001) (hmb : ∀ k, mo.getD k 0 ≤ 3000) (hT : topN mo ≤ 2000000) :
    Calls Try.prog 35 #[.agg #[v0, v1, v2, v3]] w (NewClimb w n mo.length v0 v1 v2 v3 g mo) := by
  have hmx : Try.prog.follows .mixedOrders = true := by kernel_rfl
  obtain ⟨g0, g1, g2⟩ := hg.parts3
  obtain ⟨a0, c0, rfl⟩ := g0.shape
  obtain ⟨a1, c1, rfl⟩ := g1.shape
  obtain ⟨V, ⟨a2, c2, b2, o2, rfl, A2⟩, R2⟩ := g2
  obtain ⟨a3, c3, rfl⟩ := hM.shape
  obtain ⟨b3, o3, d3, n3, f3⟩ := hM.dat
  rw [castM_len] at d3 n3 f3 ⊢
  rw [h3] at A2 R2 ⊢
  rw [h1, h2]
  have HF3 : Hid (∀ j, j < mo.length → w.cell? ⟨b3, o3 + j, none⟩ = some (.int .i64 (mo.getD j 0 : Int))) := fun j hj => by rw [f3 j hj, castM_get hj]
  have HD3 := Lib.hid d3
  have HA2 : Hid (∀ j, j < n → w.cell? ⟨b2, o2 + j, none⟩ = some (V j)) := fun j hj => A2.el j hj
  have HR2 : Hid (∀ j, j < n → IsInts w (V j) (g.succ.getD j [])) := R2
  have HAD : Hid (0 < n → a2 = some ⟨b2, o2, none⟩) := A2.ad
  have nn2 := A2.nb
  have HUB : Hid (∀ k, unitN mo k ≤ 2000000) := fun k => Nat.le_trans (Nat.le_of_dvd (unit_pos mo 0) (unit_dv (Nat.zero_le _))) hT
  have HUS : Hid (∀ k, k < mo.length → unitN mo (k + 1) * (mo.getD k 0 + 1) = unitN mo k) := fun k hk => by rw [unit_step hk, Nat.mul_comm]
  have HMB := Lib.hid hmb
  have HS := Lib.hid hS
  have HE := Lib.hid hE
  clear hg hM g0 g1 A2 R2 h1 h2 h3 hS hE hmb hT d3 f3
  have HUR0 := Lib.hid (unRow_start (mo := mo))
  have HUR1 : Hid (∀ k, (unRow mo (k + 1)).set k (unitN mo k : Int) = unRow mo k) := fun k => unRow_step
  have HUR2 : Hid (∀ k, k < mo.length → (unRow mo (k + 1)).getD (k + 1) 0 = (unitN mo (k + 1) : Int)) := fun k hk => unRow_at hk
  have HUR3 : Hid (unRow mo 0 = unitsL mo) := unRow_end
  have HURL : Hid (∀ k, (unRow mo k).length = mo.length + 1) := fun k => unRow_len
  obtain ⟨d, hd⟩ : ∃ d, mo.length = d := ⟨_, rfl⟩
  rw [hd] at HF3 HD3 HUS HUR0 HUR2 HURL hl n3 ⊢
  clear hd
  have mku := fun wx => run_make_row' (P := Try.prog) 22 3 (.int .i64 0) 8 Try.underlying22 info_int rfl .i64 .i64 (d + 1) (by omega) (by omega) wx
  have hd1 : ((d + 1 : Nat) : Int) = (d : Int) + 1 := by omega
  rw [hd1] at mku
  clear hd1
  have mka := fun wx => run_make_row' (P := Try.prog) 55 58 (.int .i64 0) 8 Try.underlying55 info_code rfl .i64 .i64 n (by omega) (by omega) wx
  have mkr := fun wx => run_make_row' (P := Try.prog) 23 22 (.slice none 0 0) 24 Try.underlying23 info_ints rfl .i64 .i64 n (by omega) (by omega) wx
  go_enter Try.func35, Try.ntmps35
  go_upto_region 1 with (fail)
  go_quiet (fail)
  go_upto_region 2 with (fail)
  go_cut [5] (fun s5 wx => ∃ z bu ba ob, s5 = .pointer (some ⟨z, 0, none⟩) ∧ Hid (NC0 w wx n d z bu ba ob (.slice a0 n c0) (.slice a1 n c1) (.slice a2 n c2) (.slice a3 d c3)))
  case first =>
    go_region
    all_goals
      go_wp2_with fail
      go_meet
      case rel =>
        refine ⟨w.heap.size + 1 + 1 + 1 + 1, _, _, _, rfl, NC0.mk ?_ ?_ (by rw [alloc_get, if_pos (by simp)]) ?_ ?_ ?_ ⟨by omega, by omega, by omega, by omega, by omega, by omega⟩ ⟨by omega, by omega, by omega, by omega⟩⟩
        · repeat (first | exact Below.refl _ _ | (refine belA ?_ _) | (refine belD ?_ _) | (refine Below.drew ?_))
        all_goals (repeat (first | rw [alloc_get, if_pos (by first | (simp; done) | (simp; omega))] | rw [alloc_get, if_neg (by first | (simp; done) | (simp; omega))] | rw [drewN_heap]))
  case rest =>
    obtain ⟨z, bu, ba, ob, rfl, H0⟩ := hcut
    clear mku mka mkr
    have HN : Hid (NC w wc n d z bu ba ob (.slice a0 n c0) (.slice a1 n c1) (.slice a2 n c2) (.slice a3 d c3) (List.replicate n (.slice none 0 0)) (List.replicate (d + 1) 0) (List.replicate n [])) := H0.out.begin hn (by omega)
    clear H0
    have e4 := cell_of_row _ _ 4 _ _ _ HN.out.box
    have c0' := HN.out.U.at' HN.out.lu.symm d (by rw [HN.out.lu]; omega)
    have f0' := HN.out.U.fz HN.out.lu.symm d
    have HN1 : Hid (NC w (wc.setCell ⟨bu, d, none⟩ (.int .i64 1)) n d z bu ba ob (.slice a0 n c0) (.slice a1 n c1) (.slice a2 n c2) (.slice a3 d c3) (List.replicate n (.slice none 0 0)) (unRow mo d) (nsBf g n 0)) := by
      have := HN.out.setU d 1
      rw [HUR0.out] at this
      exact this
    go_upto_region 4 with (fail)
    clear e4 c0' f0' HN
    generalize wc.setCell ⟨bu, d, none⟩ (.int .i64 1) = w3 at *
    go_upto_block 0 with (fail)
    go_cut [6] (fun _ wx => Hid (NC w wx n d z bu ba ob (.slice a0 n c0) (.slice a1 n c1) (.slice a2 n c2) (.slice a3 d c3) (List.replicate n (.slice none 0 0)) (unitsL mo) (nsBf g n 0)))
    case first =>
      go_wp2_with fail
      go_loopg [6] d (fun gh i wr => ∃ (k : Nat) (iz : Int), k = gh ∧ i = .int .i64 iz ∧ k ≤ d ∧ Hid (iz = (k : Int) - 1) ∧ Hid (NC w wr n d z bu ba ob (.slice a0 n c0) (.slice a1 n c1) (.slice a2 n c2) (.slice a3 d c3) (List.replicate n (.slice none 0 0)) (unRow mo k) (nsBf g n 0)))
      case atStart => exact ⟨d, _, rfl, rfl, Nat.le_refl _, rfl, HN1⟩
      case round =>
        obtain ⟨k, iz, rfl, rfl, hk, HIZ, HN⟩ := hrel
        clear HN1
        cases k with
        | succ k => as_aux_lemma =>
          obtain rfl : iz = (k : Int) := by have := HIZ.out; omega
          obtain rfl := HD3.out (by omega)
          have e4 := cell_of_row _ _ 4 _ _ _ HN.out.box
          have e3 := cell_of_row _ _ 3 _ _ _ HN.out.g
          have u1 := HN.out.U.at' HN.out.lu.symm (k + 1) (by rw [HN.out.lu]; omega)
          rw [← getD_lt _ 0 _ (by rw [HN.out.lu]; omega), HUR2.out k (by omega)] at u1
          have m1 := cellB HN.out.bx (HF3.out k (by omega))
          have HU1 := Lib.hid (HUS.out k (by omega))
          have HB1 := HUB.out (k + 1)
          have HB0 := HUB.out k
          have HM1 := HMB.out k
          have HUR := Lib.hid (HUR1.out k)
          generalize mo.getD k 0 = x at *
          generalize unitN mo (k + 1) = u at *
          have y1 : IntKind.i64.wrap ((k : Int) + 1) = (k : Int) + 1 := IntWalk.i64_in _ ⟨by omega, by omega⟩
          have y2 : IntKind.i64.wrap ((x : Int) + 1) = (x : Int) + 1 := IntWalk.i64_in _ ⟨by omega, by omega⟩
          have y3 : (u : Int) * ((x : Int) + 1) = (unitN mo k : Int) := by rw [← HU1.out]; simp
          generalize unitN mo k = r at *
          have y4 : IntKind.i64.wrap ((u : Int) * ((x : Int) + 1)) = (r : Int) := by rw [y3]; exact IntWalk.i64_in _ ⟨by omega, by omega⟩
          have i1 : (k : Int) < (d : Int) := by omega
          have i2 : (k : Int) + 1 < (d : Int) + 1 := by omega
          have i3 : (k : Int) < (d : Int) + 1 := by omega
          have i4 : ((k : Int) + 1).toNat = k + 1 := by omega
          have i5 : (0 : Int) ≤ (k : Int) + 1 := by omega
          go_upto_region 7 with (fail)
          go_still_tail 21, (by kernel_rfl)
          change wpList _ _ _ _ _ wr.drew
          have HN5 := Lib.hid (HN.out.below (Below.drew (Below.refl _ _)))
          clear e4 e3 u1 m1 HN
          generalize wr.drew = w5 at *
          have u2 : w5.cell? ⟨bu, k, none⟩ = some (.int .i64 ((unRow mo (k + 1)).getD k 0)) := by rw [getD_lt _ _ _ (by rw [HN5.out.lu]; omega)]; exact HN5.out.U.at' HN5.out.lu.symm k (by rw [HN5.out.lu]; omega)
          have f2 := HN5.out.U.fz HN5.out.lu.symm k
          have HN6 : Hid (NC w (w5.setCell ⟨bu, k, none⟩ (.int .i64 (r : Int))) n d z bu ba ob (.slice a0 n c0) (.slice a1 n c1) (.slice a2 n c2) (.slice (some ⟨b3, o3, none⟩) d c3) (List.replicate n (.slice none 0 0)) (unRow mo k) (nsBf g n 0)) := by
            have := HN5.out.setU k (r : Int)
            rw [HUR.out] at this
            exact this
          clear HN5
          go_wp2
          go_roundg k
          case measure => omega
          case rel => exact ⟨k, _, rfl, rfl, by omega, rfl, HN6⟩
        | zero => as_aux_lemma =>
          obtain rfl : iz = -1 := by have := HIZ.out; omega
          rw [HUR3.out] at HN
          go_wp2
          go_meet
          case rel => exact HN
    case rest =>
      rename_i s6 w4
      clear HUR0 HUR1 HUR2 HUR3 HURL HUS HUB HMB HF3 HD3 HN1
      have HN := hcut
      clear hcut
      have e2 := cell_of_row _ _ 2 _ _ _ HN.out.g
      go_upto_region 8 with (fail)
      go_wp2_with fail
      clear e2
      go_loopg [65] n (fun gh i wr => ∃ (k : Nat) (vals : List Value), gh = n - k ∧ i = .int .i64 (k : Int) ∧ k ≤ n ∧ Hid (NC w wr n d z bu ba ob (.slice a0 n c0) (.slice a1 n c1) (.slice a2 n c2) (.slice a3 d c3) vals (unitsL mo) (nsBf g n k)))
      case atStart => exact ⟨0, _, rfl, rfl, by omega, HN⟩
      case round =>
        clear HN
        obtain ⟨k, vals, hgk, rfl, hk, HN⟩ := hrel
        have HGK := Lib.hid hgk
        clear hgk
        by_cases hlt : k < n
        · as_aux_lemma =>
          obtain rfl := HAD.out (by omega)
          have i1 : (k : Int) < (n : Int) := by omega
          have k2 := cellB HN.out.bx (HA2.out k hlt)
          have hSk := HS.out k
          have hrl := nsBf_row g n HS.out k
          have HRL := Lib.hid hrl
          have HB1 : Hid (nsBf g n (k + 1) = pushAll (nsBf g n k) k (g.succ.getD k [])) := rfl
          have HED := Lib.hid (HE.out.ed k hlt)
          obtain ⟨⟨sa, cs, bs, os, es, sA⟩, -⟩ := HR2.out k hlt
          rw [es] at k2
          have HFS : Hid (∀ j, j < (g.succ.getD k []).length → w.cell? ⟨bs, os + j, none⟩ = some (.int .i64 ((g.succ.getD k []).getD j 0))) := fun j hj => sA.el j hj
          have HSD : Hid (0 < (g.succ.getD k []).length → sa = some ⟨bs, os, none⟩) := sA.ad
          generalize nsBf g n k = bf at *
          generalize g.succ.getD k [] = S at *
          clear es sA hrl
          obtain ⟨w5, rfl⟩ : ∃ w5, w5 = wr := ⟨_, rfl⟩
          have HN0 : Hid (NC w w5 n d z bu ba ob (.slice a0 n c0) (.slice a1 n c1) (.slice (some ⟨b2, o2, none⟩) n c2) (.slice a3 d c3) vals (unitsL mo) (pushAll bf k (S.take 0))) := HN.out
          clear HN
          go_wp2_with fail
          go_loopg [72] S.length (fun gh i wr => ∃ (j : Nat) (vals : List Value), gh = S.length - j ∧ i = .int .i64 (j : Int) ∧ j ≤ S.length ∧ Hid (NC w wr n d z bu ba ob (.slice a0 n c0) (.slice a1 n c1) (.slice (some ⟨b2, o2, none⟩) n c2) (.slice a3 d c3) vals (unitsL mo) (pushAll bf k (S.take j))))
          case atStart => exact ⟨0, _, rfl, rfl, by omega, HN0⟩
          case round =>
            clear HN0 k2
            obtain ⟨j, vals, hgj, rfl, hj, HN⟩ := hrel
            have HGJ := Lib.hid hgj
            clear hgj
            by_cases hltj : j < S.length
            · as_aux_lemma =>
              obtain rfl := HSD.out (by omega)
              have i2 : (j : Int) < (S.length : Int) := by omega
              obtain ⟨m, hm, hml⟩ := HED.out (S.getD j 0) (by rw [getD_lt _ _ _ hltj]; exact List.getElem_mem hltj)
              have c3 := cellB HN.out.bx (HFS.out j hltj)
              rw [hm] at c3
              have HM := Lib.hid hm
              clear hm
              have hE := HN.out.R.e m hml
              have hEl : ((pushAll bf k (S.take j)).getD m []).length ≤ 4000000 := by
                have h1 := pushAll_row bf k (S.take j) m
                have h2 := HRL.out m
                have h3 : (S.take j).length ≤ S.length := List.length_take_le' _ _
                omega
              have co := HN.out.R.cell hml
              have e3 := cell_of_row _ _ 6 _ _ _ HN.out.box
              obtain ⟨aom, capm, hvm⟩ := hE.slice
              have HEe := Lib.hid hE
              have hvals := Lib.hid hvm
              rw [hvm] at co
              generalize hlen : ((pushAll bf k (S.take j)).getD m []).length = len at *
              have HLEN := Lib.hid hlen
              have hBs : w.heap.size + 1 ≤ wr.heap.size := HN.out.lt.2.2.2.2
              have i3 : (m : Int) < (n : Int) := by omega
              clear hE hvm hlen
              go_upto_region 14 with (fail)
              clear c3
              have HRL1 : Hid (pushAll bf k (S.take (j + 1)) = (pushAll bf k (S.take j)).set m ((pushAll bf k (S.take j)).getD m [] ++ [(k : Int)])) := by
                show _ = _
                rw [List.take_succ_eq_append_getElem hltj, pushAll_snoc, ← getD_lt _ 0 _ hltj, HM.out]; rfl
              obtain ⟨row, hrow⟩ : ∃ row, (pushAll bf k (S.take j)).getD m [] = row := ⟨_, rfl⟩
              rw [hrow] at HEe HLEN HRL1
              have hrl : row.length < 17592186043904 := by rw [HLEN.out]; omega
              have HDR : Hid (∀ W, Below wr.drew.heap.size wr.drew W → Below wr.heap.size wr W) := fun W h => (Below.drew (B := wr.heap.size) (Below.refl _ _)).trans h
              have HBX : Hid (∀ W, (Below wr.drew.heap.size wr.drew W ∨ wr.drew.grownBy W (Value.slice aom len capm).ownBlock) → W.cell? ⟨z, 6, none⟩ = some (.slice (some ⟨ob, 0, none⟩) n n)) := fun W h => by
                have hb : W.heap[z]? = wr.heap[z]? := by
                  rcases h with h | h
                  · exact (HDR.out W h).block _ HN.out.lt.1
                  · exact h.block _ HN.out.lt.1 (fun e => by
                      have := HN.out.x m hml z (by rw [hvals.out]; exact e.symm)
                      exact this.1 rfl)
                exact cell_of_row _ _ 6 _ _ _ (hb.trans HN.out.box)
              have HCO : Hid (∀ W, Below wr.drew.heap.size wr.drew W → W.cell? ⟨ob, m, none⟩ = some (.slice aom len capm)) := fun W h => cellB (HDR.out W h) co
              have HOW : Hid (∀ W, Below wr.drew.heap.size wr.drew W → OI W (w.heap.size + 1) (.slice aom len capm) row) := fun W h => by
                have := HEe.out.below (HDR.out W h)
                rw [hvals.out] at this
                exact this
              have HRW : Hid (∀ (W : World) (v' : Value), OI W (w.heap.size + 1) v' (row ++ [(k : Int)]) → wr.drew.grownBy W (Value.slice aom len capm).ownBlock → Moved wr.drew (.slice aom len capm) v' → W.cell? ⟨ob, m, none⟩ = some (.slice aom len capm) ∧ W.frozen? ⟨ob, m, none⟩ = false ∧ NC w (W.setCell ⟨ob, m, none⟩ v') n d z bu ba ob (.slice a0 n c0) (.slice a1 n c1) (.slice (some ⟨b2, o2, none⟩) n c2) (.slice a3 d c3) (vals.set m v') (unitsL mo) (pushAll bf k (S.take (j + 1)))) := fun W v' h1 h2 h3 => by
                have := HN.out.row hml h1 (by rw [hvals.out]; exact ⟨h2.os, h2.tape, h2.output, h2.size, h2.block⟩) (by rw [hvals.out]; exact h3)
                rw [hvals.out] at this
                rw [HRL1.out]
                exact this
              clear co e3 hrow
              refine region_inv hmx (JC wr.drew (w.heap.size + 1) z ob n m k (.slice aom len capm) row) (fun vs => { tmps := (_ :: _ :: _ :: _ :: _ :: _ :: _ :: _ :: _ :: _ :: _ :: _ :: _ :: _ :: _ :: _ :: _ :: _ :: _ :: _ :: _ :: _ :: _ :: _ :: _ :: _ :: _ :: _ :: _ :: _ :: _ :: _ :: _ :: _ :: _ :: _ :: _ :: _ :: _ :: _ :: _ :: _ :: _ :: _ :: _ :: _ :: _ :: _ :: _ :: _ :: _ :: _ :: _ :: _ :: _ :: _ :: _ :: _ :: _ :: _ :: _ :: _ :: _ :: _ :: _ :: _ :: _ :: _ :: _ :: _ :: _ :: _ :: _ :: _ :: _ :: _ :: vs 0 :: vs 1 :: vs 2 :: vs 3 :: vs 4 :: vs 5 :: vs 6 :: vs 7 :: vs 8 :: vs 9 :: vs 10 :: vs 11 :: vs 12 :: vs 13 :: vs 14 :: vs 15 :: _ :: _ :: _ :: []).toArray, defers := _ }) (fun i => [u76, u77, u78, u79, u80, u81, u82, u83, u84, u85, u86, u87, u88, u89, u90, u91].getD i undef) rfl (by kernel_rfl) ⟨fun _ => Below.refl _ _, (fun e => by cases e), (fun e => by cases e), (fun e => by cases e), (fun _ e => by cases e)⟩ ?step ?fin
              case step =>
                intro ix o ho
                match ix, ho with
                | 0, ho =>
                  obtain rfl := Option.some.inj ho
                  intro Sx vs W K hS hd hcl hJ hK
                  have HK := Lib.hid hK
                  have HJ := Lib.hid hJ
                  have s16 : Sx 16 = false := by cases h : Sx 16 with | false => rfl | true => have := hcl 0 16 (by rfl) h; rw [hS] at this; cases this
                  clear hK hd hcl hS ho hJ
                  dsimp only
                  go_simp
                  have h := HK.out _ _ (HJ.out.keep (by decide) (by decide) (by decide) rfl)
                  simp only [upd, Nat.reduceEqDiff, reduceIte] at h
                  exact h
                | 1, ho =>
                  obtain rfl := Option.some.inj ho
                  intro Sx vs W K hS hd hcl hJ hK
                  have HK := Lib.hid hK
                  have HJ := Lib.hid hJ
                  have e0 : vs 0 = .pointer (some ⟨z, 0, none⟩) := hJ.pv 0 (hd 0 (by rfl))
                  have s16 : Sx 16 = false := by cases h : Sx 16 with | false => rfl | true => have := hcl 1 16 (by rfl) h; rw [hS] at this; cases this
                  clear hK hd hcl hS ho hJ
                  dsimp only
                  go_simp
                  have h := HK.out _ _ (HJ.out.keep (by decide) (by decide) (by decide) rfl)
                  simp only [upd, Nat.reduceEqDiff, reduceIte, e0] at h
                  exact h
                | 2, ho =>
                  obtain rfl := Option.some.inj ho
                  intro Sx vs W K hS hd hcl hJ hK
                  have HK := Lib.hid hK
                  have HJ := Lib.hid hJ
                  have e1 : vs 1 = .pointer (some ⟨z, 0, none⟩) := hJ.pv 1 (hd 1 (by rfl))
                  have s16 : Sx 16 = false := by cases h : Sx 16 with | false => rfl | true => have := hcl 2 16 (by rfl) h; rw [hS] at this; cases this
                  clear hK hd hcl hS ho hJ
                  dsimp only
                  go_simp
                  have h := HK.out _ _ (HJ.out.keep (by decide) (by decide) (by decide) rfl)
                  simp only [upd, Nat.reduceEqDiff, reduceIte, e1] at h
                  exact h
                | 3, ho =>
                  obtain rfl := Option.some.inj ho
                  intro Sx vs W K hS hd hcl hJ hK
                  have HK := Lib.hid hK
                  have HJ := Lib.hid hJ
                  have e2 : vs 2 = .pointer (some ⟨z, 6, none⟩) := hJ.pv 2 (hd 2 (by rfl))
                  have s16 : Sx 16 = false := by cases h : Sx 16 with | false => rfl | true => have := hcl 3 16 (by rfl) h; rw [hS] at this; cases this
                  have c1 : W.cell? ⟨z, 6, none⟩ = some (.slice (some ⟨ob, 0, none⟩) n n) := HBX.out W (by cases h : Sx 14 with | false => exact .inl (hJ.p0 h) | true => exact .inr (hJ.p2 h s16).2.1)
                  clear hK hd hcl hS ho hJ
                  dsimp only
                  go_simp
                  have h := HK.out _ _ (HJ.out.keep (by decide) (by decide) (by decide) rfl)
                  simp only [upd, Nat.reduceEqDiff, reduceIte, e2] at h
                  exact h
                | 4, ho =>
                  obtain rfl := Option.some.inj ho
                  intro Sx vs W K hS hd hcl hJ hK
                  have HK := Lib.hid hK
                  have HJ := Lib.hid hJ
                  have s16 : Sx 16 = false := by cases h : Sx 16 with | false => rfl | true => have := hcl 4 16 (by rfl) h; rw [hS] at this; cases this
                  clear hK hd hcl hS ho hJ
                  dsimp only
                  go_simp
                  have h := HK.out _ _ (HJ.out.keep (by decide) (by decide) (by decide) rfl)
                  simp only [upd, Nat.reduceEqDiff, reduceIte] at h
                  exact h
                | 5, ho =>
                  obtain rfl := Option.some.inj ho
                  intro Sx vs W K hS hd hcl hJ hK
                  have HK := Lib.hid hK
                  have HJ := Lib.hid hJ
                  have s16 : Sx 16 = false := by cases h : Sx 16 with | false => rfl | true => have := hcl 5 16 (by rfl) h; rw [hS] at this; cases this
                  clear hK hd hcl hS ho hJ
                  dsimp only
                  go_simp
                  have h := HK.out _ _ (HJ.out.keep (by decide) (by decide) (by decide) rfl)
                  simp only [upd, Nat.reduceEqDiff, reduceIte] at h
                  exact h
                | 6, ho =>
                  obtain rfl := Option.some.inj ho
                  intro Sx vs W K hS hd hcl hJ hK
                  have HK := Lib.hid hK
                  have HJ := Lib.hid hJ
                  have e5 : vs 5 = .pointer (some ⟨z, 0, none⟩) := hJ.pv 5 (hd 5 (by rfl))
                  have s16 : Sx 16 = false := by cases h : Sx 16 with | false => rfl | true => have := hcl 6 16 (by rfl) h; rw [hS] at this; cases this
                  clear hK hd hcl hS ho hJ
                  dsimp only
                  go_simp
                  have h := HK.out _ _ (HJ.out.keep (by decide) (by decide) (by decide) rfl)
                  simp only [upd, Nat.reduceEqDiff, reduceIte, e5] at h
                  exact h
                | 7, ho =>
                  obtain rfl := Option.some.inj ho
                  intro Sx vs W K hS hd hcl hJ hK
                  have HK := Lib.hid hK
                  have HJ := Lib.hid hJ
                  have e6 : vs 6 = .pointer (some ⟨z, 0, none⟩) := hJ.pv 6 (hd 6 (by rfl))
                  have s16 : Sx 16 = false := by cases h : Sx 16 with | false => rfl | true => have := hcl 7 16 (by rfl) h; rw [hS] at this; cases this
                  clear hK hd hcl hS ho hJ
                  dsimp only
                  go_simp
                  have h := HK.out _ _ (HJ.out.keep (by decide) (by decide) (by decide) rfl)
                  simp only [upd, Nat.reduceEqDiff, reduceIte, e6] at h
                  exact h
                | 8, ho =>
                  obtain rfl := Option.some.inj ho
                  intro Sx vs W K hS hd hcl hJ hK
                  have HK := Lib.hid hK
                  have HJ := Lib.hid hJ
                  have e7 : vs 7 = .pointer (some ⟨z, 6, none⟩) := hJ.pv 7 (hd 7 (by rfl))
                  have s16 : Sx 16 = false := by cases h : Sx 16 with | false => rfl | true => have := hcl 8 16 (by rfl) h; rw [hS] at this; cases this
                  have c1 : W.cell? ⟨z, 6, none⟩ = some (.slice (some ⟨ob, 0, none⟩) n n) := HBX.out W (by cases h : Sx 14 with | false => exact .inl (hJ.p0 h) | true => exact .inr (hJ.p2 h s16).2.1)
                  clear hK hd hcl hS ho hJ
                  dsimp only
                  go_simp
                  have h := HK.out _ _ (HJ.out.keep (by decide) (by decide) (by decide) rfl)
                  simp only [upd, Nat.reduceEqDiff, reduceIte, e7] at h
                  exact h
                | 9, ho =>
                  obtain rfl := Option.some.inj ho
                  intro Sx vs W K hS hd hcl hJ hK
                  have HK := Lib.hid hK
                  have HJ := Lib.hid hJ
                  have s16 : Sx 16 = false := by cases h : Sx 16 with | false => rfl | true => have := hcl 9 16 (by rfl) h; rw [hS] at this; cases this
                  clear hK hd hcl hS ho hJ
                  dsimp only
                  go_simp
                  have h := HK.out _ _ (HJ.out.keep (by decide) (by decide) (by decide) rfl)
                  simp only [upd, Nat.reduceEqDiff, reduceIte] at h
                  exact h
                | 10, ho =>
                  obtain rfl := Option.some.inj ho
                  intro Sx vs W K hS hd hcl hJ hK
                  have HK := Lib.hid hK
                  have HJ := Lib.hid hJ
                  have e8 : vs 8 = .slice (some ⟨ob, 0, none⟩) n n := hJ.pv 8 (hd 8 (by rfl))
                  have e9 : vs 9 = .int .i64 (m : Int) := hJ.pv 9 (hd 9 (by rfl))
                  have s16 : Sx 16 = false := by cases h : Sx 16 with | false => rfl | true => have := hcl 10 16 (by rfl) h; rw [hS] at this; cases this
                  have y1 := i3
                  clear hK hd hcl hS ho hJ
                  dsimp only
                  go_simp
                  have h := HK.out _ _ (HJ.out.keep (by decide) (by decide) (by decide) rfl)
                  simp only [upd, Nat.reduceEqDiff, reduceIte, e8, e9] at h
                  exact h
                | 11, ho =>
                  obtain rfl := Option.some.inj ho
                  intro Sx vs W K hS hd hcl hJ hK
                  have HK := Lib.hid hK
                  have HJ := Lib.hid hJ
                  have e10 : vs 10 = .pointer (some ⟨ob, m, none⟩) := hJ.pv 10 (hd 10 (by rfl))
                  have s16 : Sx 16 = false := by cases h : Sx 16 with | false => rfl | true => have := hcl 11 16 (by rfl) h; rw [hS] at this; cases this
                  have s14 : Sx 14 = false := by cases h : Sx 14 with | false => rfl | true => have := hcl 11 14 (by rfl) h; rw [hS] at this; cases this
                  have c1 : W.cell? ⟨ob, m, none⟩ = some (.slice aom len capm) := HCO.out W (hJ.p0 s14)
                  clear hK hd hcl hS ho hJ
                  dsimp only
                  go_simp
                  have h := HK.out _ _ (HJ.out.keep (by decide) (by decide) (by decide) rfl)
                  simp only [upd, Nat.reduceEqDiff, reduceIte, e10] at h
                  exact h
                | 12, ho =>
                  obtain rfl := Option.some.inj ho
                  intro Sx vs W K hS hd hcl hJ hK
                  have HK := Lib.hid hK
                  have HJ := Lib.hid hJ
                  have s16 : Sx 16 = false := by cases h : Sx 16 with | false => rfl | true => have := hcl 12 16 (by rfl) h; rw [hS] at this; cases this
                  clear hK hd hcl hS ho hJ
                  dsimp only
                  go_simp
                  have h := HK.out _ _ (HJ.out.keep (by decide) (by decide) (by decide) rfl)
                  simp only [upd, Nat.reduceEqDiff, reduceIte] at h
                  exact h
                | 13, ho =>
                  obtain rfl := Option.some.inj ho
                  intro Sx vs W K hS hd hcl hJ hK
                  have HK := Lib.hid hK
                  have HJ := Lib.hid hJ
                  have e12 : vs 12 = .int .i64 (k : Int) := hJ.pv 12 (hd 12 (by rfl))
                  have s16 : Sx 16 = false := by cases h : Sx 16 with | false => rfl | true => have := hcl 13 16 (by rfl) h; rw [hS] at this; cases this
                  have s14 : Sx 14 = false := by cases h : Sx 14 with | false => rfl | true => have := hcl 13 14 (by rfl) h; rw [hS] at this; cases this
                  clear hK hd hcl hS ho hJ
                  dsimp only
                  go_simp
                  have h := HK.out _ _ (HJ.out.elem s14 s16)
                  simp only [upd, Nat.reduceEqDiff, reduceIte, e12] at h
                  exact h
                | 14, ho =>
                  obtain rfl := Option.some.inj ho
                  intro Sx vs W K hS hd hcl hJ hK
                  have HK := Lib.hid hK
                  have HJ := Lib.hid hJ
                  have e11 : vs 11 = .slice aom len capm := hJ.pv 11 (hd 11 (by rfl))
                  have s16 : Sx 16 = false := by cases h : Sx 16 with | false => rfl | true => have := hcl 14 16 (by rfl) h; rw [hS] at this; cases this
                  obtain ⟨q, eq, hq⟩ := hJ.p1 (hd 13 (by rfl)) hS
                  rw [if_pos (by rfl)]
                  refine wp_app_intW W _ _ (k : Int) (by rfl) (w.heap.size + 1) (.slice aom len capm) row (by show vs 11 = _; exact e11) (HOW.out W (hJ.p0 hS)) q (by show vs 13 = _; exact eq) hq hrl (Nat.le_trans hBs (hJ.p0 hS).size) ?_
                  intro v' W' h1 h2 h3
                  exact hK v' W' (hJ.app hS s16 h1 h2 h3)
                | 15, ho =>
                  obtain rfl := Option.some.inj ho
                  intro Sx vs W K hS hd hcl hJ hK
                  have HK := Lib.hid hK
                  have HJ := Lib.hid hJ
                  have e3 : vs 3 = .slice (some ⟨ob, 0, none⟩) n n := hJ.pv 3 (hd 3 (by rfl))
                  have e4 : vs 4 = .int .i64 (m : Int) := hJ.pv 4 (hd 4 (by rfl))
                  have s16 : Sx 16 = false := by cases h : Sx 16 with | false => rfl | true => have := hcl 15 16 (by rfl) h; rw [hS] at this; cases this
                  have y1 := i3
                  clear hK hd hcl hS ho hJ
                  dsimp only
                  go_simp
                  have h := HK.out _ _ (HJ.out.keep (by decide) (by decide) (by decide) rfl)
                  simp only [upd, Nat.reduceEqDiff, reduceIte, e3, e4] at h
                  exact h
                | 16, ho =>
                  obtain rfl := Option.some.inj ho
                  intro Sx vs W K hS hd hcl hJ hK
                  have HK := Lib.hid hK
                  have HJ := Lib.hid hJ
                  have e15 : vs 15 = .pointer (some ⟨ob, m, none⟩) := hJ.pv 15 (hd 15 (by rfl))
                  have s14 : Sx 14 = true := hd 14 (by rfl)
                  obtain ⟨p1, p2, p3⟩ := hJ.p2 s14 hS
                  obtain ⟨f1, f2, -⟩ := HRW.out W (vs 14) p1 p2 p3
                  obtain ⟨ax, cx, ev⟩ := p1.slice
                  have h9 := hJ.store s14 hS
                  rw [ev] at h9
                  have H9 := Lib.hid h9
                  have f1 := f1
                  clear hK hd hcl ho hJ HJ p1 p2 p3 h9
                  generalize (row ++ [(k : Int)]).length = l9 at *
                  dsimp only
                  go_simp
                  have h := HK.out undef _ H9.out
                  simp only [upd, Nat.reduceEqDiff, reduceIte, e15, ev] at h
                  exact h
                | q + 17, ho => exact absurd ho (by simp)
              case fin =>
                intro Sx vs W hS hJ
                obtain ⟨w9, hw9, p1, p2, p3⟩ := hJ.p3 (hS 16 (by decide))
                have HNX := Lib.hid (HRW.out w9 (vs 14) p1 p2 p3).2.2
                rw [hw9]
                clear hS hJ p1 p2 p3 hw9
                generalize vs 0 = g0 at *
                generalize vs 1 = g1 at *
                generalize vs 2 = g2 at *
                generalize vs 3 = g3 at *
                generalize vs 4 = g4 at *
                generalize vs 5 = g5 at *
                generalize vs 6 = g6 at *
                generalize vs 7 = g7 at *
                generalize vs 8 = g8 at *
                generalize vs 9 = g9 at *
                generalize vs 10 = g10 at *
                generalize vs 11 = g11 at *
                generalize vs 12 = g12 at *
                generalize vs 13 = g13 at *
                generalize vs 14 = g14 at *
                generalize vs 15 = g15 at *
                clear vs
                go_wp2
                go_roundg (S.length - (j + 1))
                case rel => exact ⟨j + 1, _, rfl, by go_num, by omega, HNX⟩
                case measure => have := HGJ.out; omega
            · as_aux_lemma =>
              obtain rfl : j = S.length := by omega
              have i2 : ¬ (S.length : Int) < (S.length : Int) := by omega
              rw [List.take_length, ← HB1.out] at HN
              go_wp2
              go_roundg (n - (k + 1))
              case rel => exact ⟨k + 1, vals, rfl, by go_num, by omega, HN⟩
              case measure => have := HGK.out; omega
        · as_aux_lemma =>
          obtain rfl : k = n := by omega
          have i1 : ¬ (k : Int) < (k : Int) := by omega
          go_wp2
          go_ret
          exact ⟨z, bu, ba, ob, vals, rfl, HN.out⟩

end Go.Proofs.Ytijkjhcigdfdgaa
