/- What the closure of parity.Word computes; a map that numbers states. -/
import Derived.Test.YtjadeffdcbchnaaDoorAr46
import Derived.Test.YtjadeffdcbchnaaDoorAr47
import Derived.Maps.OwnSet
namespace Go.Proofs.YtjadeffdcbchnaaDoor
open Go.RowKit Go.Maps Go.WideMaps

theorem idxI_pre {l e : List Int} {y : Int} (h : y ∈ l) : (l ++ e).idxOf y = l.idxOf y := by
  induction l with
  | nil => cases h
  | cons z l ih =>
    rw [List.cons_append, List.idxOf_cons, List.idxOf_cons]
    by_cases e : z = y
    · subst e; simp
    · have hb : (z == y) = false := by simpa using e
      rw [hb, ih ((List.mem_cons.1 h).resolve_left fun x => e x.symm)]
theorem idxI_lt {l : List Int} {y : Int} (h : y ∈ l) : l.idxOf y < l.length := List.idxOf_lt_length_iff.2 h
theorem idxI_new {l : List Int} {y : Int} (h : y ∉ l) : (l ++ [y]).idxOf y = l.length := by
  induction l with
  | nil => simp
  | cons z l ih =>
    have e : ¬ z = y := fun x => h (by rw [x]; exact List.mem_cons_self)
    have hb : (z == y) = false := by simpa using e
    rw [List.cons_append, List.idxOf_cons, hb, ih (fun x => h (List.mem_cons_of_mem _ x))]
    simp
theorem intKeyed : Keyed Tryd.prog 3 := int_keyed Tryd.underlying3
theorem intKey {q : Int} (h : I64 q) : keyOf Tryd.prog 3 (.int .i64 q) = some (.int .i64 q) := keyOf_int_mk Tryd.underlying3 (lit_wf h)
theorem intIsKey {q : Int} (h : I64 q) : Go.WideAt.IsKeyLit (.int .i64 q) := Keyed.key intKeyed (intKey h)
/-- Block b is the map that numbers the states of a list. -/
def NumI (w : World) (b : Nat) (l : List Int) : Prop := ∃ D : DataW Unit, w.ownsMap Tryd.prog 3 (plainElem Tryd.prog 3) b l.length D ∧ IsMap D ∧
  (∀ y, I64 y → Maps.has D (.int .i64 y) = decide (y ∈ l)) ∧ ∀ y, I64 y → y ∈ l → D.atKey (.int .i64 y) (.lit (.int .i64 0)) = .lit (.int .i64 (l.idxOf y))
theorem NumI.kept {w w' : World} {b : Nat} {l : List Int} {row : Option Nat} (h : NumI w b l) (hg : w.grownBy w' row) (hne : some b ≠ row) : NumI w' b l := by
  obtain ⟨D, h1, h2⟩ := h
  exact ⟨D, h1.kept hg hne, h2⟩
theorem NumI.lt {w : World} {b : Nat} {l : List Int} (h : NumI w b l) : b < w.heap.size := by
  obtain ⟨D, h1, -⟩ := h
  exact h1.lt
theorem NumI.below {w w' : World} {b : Nat} {l : List Int} (h : NumI w b l) (hb : Below w.heap.size w w') : NumI w' b l := h.kept (below_grown hb) (by simp)
theorem NumI.made (w : World) : NumI (w.alloc (.map #[] 0)) w.heap.size [] :=
  ⟨_, World.ownsMap_made w Tryd.prog 3 _, isMap_empty, fun y _ => by simp [Maps.has], fun y _ hy => absurd hy (by simp)⟩
theorem NumI.put {w' : World} {b : Nat} {l : List Int} {y : Int} {D : DataW Unit} (hm : IsMap D) (hy : I64 y) (hn : y ∉ l)
    (h1 : ∀ z, I64 z → Maps.has D (.int .i64 z) = decide (z ∈ l)) (h2 : ∀ z, I64 z → z ∈ l → D.atKey (.int .i64 z) (.lit (.int .i64 0)) = .lit (.int .i64 (l.idxOf z)))
    (h : w'.ownsMap Tryd.prog 3 (plainElem Tryd.prog 3) b (l.length + 1) (D.put (.int .i64 y) (.lit (.int .i64 l.length)))) : NumI w' b (l ++ [y]) := by
  refine ⟨_, by rw [List.length_append, List.length_singleton]; exact h, hm.put _ _, fun z hz => ?_, fun z hz hzl => ?_⟩
  · by_cases e : z = y
    · subst e
      rw [has_put_same hm (intIsKey hz)]; simp
    · rw [has_put_other (fun k => e (by injection k)), h1 z hz]
      simp [e]
  · by_cases e : z = y
    · subst e
      rw [idxI_new hn, atKey_put_same hm (intIsKey hz)]
    · have hzl' : z ∈ l := by
        rcases List.mem_append.1 hzl with h | h
        · exact h
        · exact absurd (List.mem_singleton.1 h) e
      rw [atKey_put_other (fun k => e (by injection k)), h2 z hz hzl', idxI_pre hzl']
set_option maxRecDepth 100000 in
theorem NumI.get {w : World} {b : Nat} {l : List Int} (h : NumI w b l) {y : Int} (hy : I64 y) :
    (y ∈ l → (Instr.lookup 87 (.map (some b)) (.int .i64 y) true).run Tryd.prog w = .ok (.tuple #[.int .i64 (l.idxOf y : Int), .bool true]) w) ∧
    (y ∉ l → ∃ c, (Instr.lookup 87 (.map (some b)) (.int .i64 y) true).run Tryd.prog w = .ok (.tuple #[.int .i64 c, .bool false]) w) := by
  obtain ⟨D, h1, h2, h3, h4⟩ := h
  obtain ⟨v, ps, hrun, hv⟩ := h1.look_ok intKeyed Tryd.underlying87 (zero_int w) (plainElem_int Tryd.underlying3 (q := .i64) (a := 0) rfl) (intKey hy)
  obtain ⟨c, rfl, hc, hwc⟩ := plainElem_int_inv Tryd.underlying3 hv
  rw [h3 y hy] at hrun
  simp only [Prod.mk.injEq] at hc
  refine ⟨fun hm => ?_, fun hm => ⟨c, by rw [hrun, decide_eq_false hm]⟩⟩
  have h5 := h4 y hy hm
  rw [hc.1] at h5
  simp only [DataW.lit.injEq, Lit.int.injEq, true_and] at h5
  rw [hrun, decide_eq_true hm, h5]
set_option maxRecDepth 100000 in
theorem NumI.upd {w : World} {b : Nat} {l : List Int} (h : NumI w b l) {y : Int} (hy : I64 y) (hn : y ∉ l) (hl : l.length ≤ 3000) :
    ∃ w', (Instr.mapUpdate 87 (.map (some b)) (.int .i64 y) (.int .i64 (l.length : Int))).run Tryd.prog w = .ok () w' ∧ NumI w' b (l ++ [y]) ∧ w.grownBy w' (some b) := by
  obtain ⟨D, h1, h2, h3, h4⟩ := h
  obtain ⟨w', hrun, r1, r2⟩ := h1.update intKeyed Tryd.underlying87 (by simp only [maxLen]; omega) (intKey hy) (plainElem_int Tryd.underlying3 (q := .i64) (a := (l.length : Int)) (lit_wf (by unfold I64; omega)))
  exact ⟨w', hrun, NumI.put h2 hy hn h3 h4 r1, r2⟩

theorem one_set {w : World} {z : Nat} {t : TypeId} {c d : Value} (h : w.heap[z]? = some (.cells #[c] t (0, 0))) : (w.setCell ⟨z, 0, none⟩ d).heap[z]? = some (.cells #[d] t (0, 0)) := by
  have := heap_setCell_same w z 0 _ _ d h
  simpa using this
theorem nx_bd {a : Au} (hv : validA a = true) {q x : Int} (h0 : 0 ≤ q) (h1 : q < a.next.length) (hx0 : 0 ≤ x) (hx1 : x < a.letters) : 0 ≤ nxL a q x ∧ nxL a q x < a.next.length := by
  obtain ⟨h2, -, h3⟩ := validA_row hv (s := q.toNat) (by omega)
  exact h3 x.toNat (by omega)
theorem readF_bd {a : Au} (hv : validA a = true) {q m : Int} (h0 : 0 ≤ q) (h1 : q < a.next.length) : ∀ {ls : List Int}, (∀ x ∈ ls, 0 ≤ x ∧ x < a.letters) → 0 ≤ (readF a (q, m) ls).1 ∧ (readF a (q, m) ls).1 < a.next.length := by
  intro ls
  induction ls generalizing q m with
  | nil => intro _; exact ⟨h0, h1⟩
  | cons x ls ih =>
    intro hl
    have hx := hl x List.mem_cons_self
    have := nx_bd hv h0 h1 hx.1 hx.2
    exact ih this.1 this.2 fun y hy => hl y (List.mem_cons_of_mem _ hy)

set_option maxRecDepth 100000 in
set_option maxHeartbeats 8000000 in
theorem read_c (w0 w : World) (vls : Value) (ls : List Int) (a : Au) (zp zs n2 k2 n3 k3 : Nat) (p2 p3 : Option Addr) (q : Int) (hv : validA a = true) (hB : Below w0.heap.size w0 w) (hl : IsInts w0 vls ls) (hx : w0.heap[zp]? = some (.cells #[.int .i64 a.letters, .int .i64 a.start, .slice p2 n2 k2, .slice p3 n3 k3] 25 (0, 0)))
    (hN : IsRows w0 (.slice p2 n2 k2) a.next) (hP : IsRows w0 (.slice p3 n3 k3) a.prio) (hz : w0.heap.size ≤ zs) (hs : w.heap[zs]? = some (.cells #[.int .i64 q] 3 (0, 0))) (h0 : 0 ≤ q) (h1 : q < a.next.length) (hls : ∀ x ∈ ls, 0 ≤ x ∧ x < a.letters) :
    Calls Tryd.prog 57 #[vls, .pointer (some ⟨zp, 0, none⟩), .pointer (some ⟨zs, 0, none⟩)] w (fun e w' => e = .returned (.int .i64 (readF a (q, 20000) ls).2) ∧ Below w0.heap.size w0 w' ∧ w.grownBy w' (some zs) ∧ w'.heap[zs]? = some (.cells #[.int .i64 (readF a (q, 20000) ls).1] 3 (0, 0))) := by
  obtain ⟨al, cl, rfl⟩ := hl.shp
  obtain ⟨lb, lo, had, hlm, hlc⟩ := hl.dat
  obtain ⟨V2, ⟨a2, c2, b2, o2, hv2, f2⟩, r2⟩ := hN
  obtain ⟨V3, ⟨a3, c3, b3, o3, hv3, f3⟩, r3⟩ := hP
  simp only [Value.slice.injEq] at hv2 hv3
  obtain ⟨rfl, rfl, rfl⟩ := hv2
  obtain ⟨rfl, rfl, rfl⟩ := hv3
  have hpl : a.prio.length = a.next.length := by
    have h := hv
    simp only [validA, Bool.and_eq_true, decide_eq_true_eq] at h
    exact h.1.1.2
  obtain rfl := f2.ad (by omega)
  obtain rfl := f3.ad (by omega)
  have HC := Lib.hid hlc
  have HAD := Lib.hid had
  have hs0 := hs
  clear had hlc hl
  go_enter Tryd.func57, Tryd.ntmps57
  go_wp2
  go_loopg [5, 10] ls.length (fun gh m i wr => ∃ k : Nat, gh = ls.length - k ∧ i = .int .i64 k ∧ m = .int .i64 (readF a (q, 20000) (ls.take k)).2 ∧ k ≤ ls.length ∧ Below w0.heap.size w0 wr ∧ w.grownBy wr (some zs) ∧ wr.heap[zs]? = some (.cells #[.int .i64 (readF a (q, 20000) (ls.take k)).1] 3 (0, 0)))
  case atStart => exact ⟨0, by omega, rfl, rfl, by omega, hB, grown_refl _ _, hs⟩
  case round =>
    obtain ⟨k, hgk, rfl, rfl, hk, hBr, hgr, hsr⟩ := hrel
    have HGK := Lib.hid hgk
    clear hgk hs hs0 hB
    by_cases hlt : k < ls.length
    · obtain rfl := HAD.out (by omega)
      have lc := cellB hBr (HC.out k hlt)
      have hxm : ls.getD k 0 ∈ ls := by rw [getD_lt _ _ _ hlt]; exact List.getElem_mem hlt
      obtain ⟨x0, x1⟩ := hls _ hxm
      obtain ⟨x, hxe⟩ := Int.eq_ofNat_of_zero_le x0
      obtain ⟨q0, q1⟩ := readF_bd hv h0 h1 (m := 20000) (ls := ls.take k) fun y hy => hls y (List.mem_of_mem_take hy)
      have hstep := readF_snoc a (q, 20000) (ls.take k) (ls.getD k 0)
      rw [show ls.take k ++ [ls.getD k 0] = ls.take (k + 1) by rw [List.take_succ_eq_append_getElem hlt, getD_lt _ _ _ hlt]] at hstep
      have HST := Lib.hid hstep
      generalize readF a (q, 20000) (ls.take k) = s at *
      obtain ⟨sn, hsn⟩ := Int.eq_ofNat_of_zero_le q0
      have hnx : nxL a s.1 (ls.getD k 0) = (a.next.getD sn []).getD x 0 := by unfold nxL; rw [hsn, hxe]; rfl
      have hpx : prL a s.1 (ls.getD k 0) = (a.prio.getD sn []).getD x 0 := by unfold prL; rw [hsn, hxe]; rfl
      have hsN : sn < a.next.length := by omega
      have hrow := validA_row hv hsN
      have i2 := r2 sn hsN
      have i3 := r3 sn (by omega)
      have e2 := cellB hBr (f2.el sn hsN)
      have e3 := cellB hBr (f3.el sn (by omega))
      obtain ⟨ar2, cr2, hvr2⟩ := i2.shp
      obtain ⟨ar3, cr3, hvr3⟩ := i3.shp
      rw [hvr2] at e2 i2
      rw [hvr3] at e3 i3
      obtain ⟨nb, no, na, -, nc⟩ := i2.dat
      obtain ⟨mb, mo, ma, -, mc⟩ := i3.dat
      have hxl2 : x < (a.next.getD sn []).length := by omega
      have hxl3 : x < (a.prio.getD sn []).length := by omega
      obtain rfl := na (by omega)
      obtain rfl := ma (by omega)
      have n1 := cellB hBr (nc x hxl2)
      have n2 := cellB hBr (mc x hxl3)
      rw [← hnx] at n1
      rw [← hpx] at n2
      rw [hxe] at lc
      have hxc := (hBr.block _ (Array.getElem?_eq_some_iff.1 hx).1).trans hx
      have d2 := cell_of_row _ _ 2 _ _ _ hxc
      have d3 := cell_of_row _ _ 3 _ _ _ hxc
      have s1 := cell_of_row _ _ 0 _ _ _ hsr
      have s2 := frozen_of_row _ _ 0 _ _ hsr
      have HS2 := Lib.hid (one_set (d := .int .i64 (nxL a s.1 (ls.getD k 0))) hsr)
      have HBS := Lib.hid (hBr.setCell (p := ⟨zs, 0, none⟩) hz (.int .i64 (nxL a s.1 (ls.getD k 0))))
      have HGS := Lib.hid (grown_trans hgr (grown_set wr zs 0 (.int .i64 (nxL a s.1 (ls.getD k 0)))))
      have hpn : (sn : Int) < a.prio.length := by omega
      rw [hsn] at s1
      clear hrow hvr2 hvr3 i2 i3 na ma nc mc hnx hpx hxe hsn hstep x0 x1 hxm hBr hgr hsr q0 q1
      generalize nxL a s.1 (ls.getD k 0) = nq at *
      generalize prL a s.1 (ls.getD k 0) = np at *
      generalize (a.next.getD sn []).length = L2 at *
      generalize (a.prio.getD sn []).length = L3 at *
      have hln : ls.length ≤ 140737488351232 := hlm
      go_wp2
      all_goals
        go_roundg (ls.length - (k + 1))
        case measure => have := HGK.out; omega
        case rel => exact ⟨k + 1, rfl, by go_num, by rw [HST.out]; congr 1; first | omega | (simp; omega), by omega, HBS.out, HGS.out, by rw [HST.out]; exact HS2.out⟩
    · obtain rfl : k = ls.length := by omega
      rw [List.take_length] at hsr ⊢
      go_wp2
      go_ret
      exact ⟨rfl, hBr, hgr, hsr⟩

end Go.Proofs.YtjadeffdcbchnaaDoor
