/- What newSolver does. -/
import Derived.Test.YtjhafakkadnfmaaSo12
import Derived.Test.YtjhafakkadnfmaaC18
import Derived.Deep.RegionLaw
namespace Go.Proofs.Ytjhafakkadnfmaa
open Go.RowKit

/-- What is known behind the makes. -/
structure NS0 (w wx : World) (n sp ba bl bw ob : Nat) (v0 v1 v2 : Value) : Prop where
  bx : Below w.heap.size w wx
  g : wx.heap[w.heap.size]? = some (.cells #[v0, v1, v2] 25 (0, 0))
  box : wx.heap[sp]? = some (.cells #[v0, v1, v2, .slice (some ⟨ob, 0, none⟩) n n, .slice (some ⟨ba, 0, none⟩) n n, .slice (some ⟨bl, 0, none⟩) n n, .slice (some ⟨bw, 0, none⟩) n n] 56 (0, 0))
  ra : wx.heap[ba]? = some (.cells (madeCells #[.bool false] n) 4 (0, 0))
  rl : wx.heap[bl]? = some (.cells (madeCells #[.int .i64 0] n) 3 (0, 0))
  rw' : wx.heap[bw]? = some (.cells (madeCells #[.int .i64 0] n) 3 (0, 0))
  ro : wx.heap[ob]? = some (.cells (madeCells #[.slice none 0 0] n) 22 (0, 0))
  ne : ba ≠ bl ∧ ba ≠ bw ∧ bl ≠ bw ∧ ba ≠ sp ∧ bl ≠ sp ∧ bw ≠ sp ∧ ob ≠ sp ∧ ob ≠ ba ∧ ob ≠ bl ∧ ob ≠ bw
  gt : w.heap.size < sp ∧ w.heap.size < ba ∧ w.heap.size < bl ∧ w.heap.size < bw ∧ w.heap.size < ob

theorem Rows.push {w w' : World} {B n ob : Nat} {vals : List Value} {bf : List (List Int)} {v' : Value} {u : Nat} {l : List Int} (h : Rows w B n ob vals bf) (hu : u < n) (hv : OI w' B v' l) (hg : w.grownBy w' (vals.getD u undef).ownBlock) (hm : Moved w (vals.getD u undef) v') :
    w'.cell? ⟨ob, u, none⟩ = some (vals.getD u undef) ∧ w'.frozen? ⟨ob, u, none⟩ = false ∧ Rows (w'.setCell ⟨ob, u, none⟩ v') B n ob (vals.set u v') (bf.set u l) := by
  have ho1 : Only (fun k => (vals.getD u undef).ownBlock = some k) w w' := Only.of_grown hg
  have ho : w'.ownsRow B 22 1 (.slice (some ⟨ob, 0, none⟩) n n) n vals := ownsRow_only h.o ho1 (fun k hk => by cases hk; exact h.ob' u hu)
  have hfresh : ∀ b, v'.ownBlock = some b → b ≠ ob := fun b hb => by
    rcases hm b hb with e | e
    · exact fun x => h.ob' u hu (x ▸ e)
    · have hr := h.row.2; omega
  have ho2 : Only (fun k => k = ob) w' (w'.setCell ⟨ob, u, none⟩ v') := Only.set ob u v' rfl
  have hlv : u < vals.length := by rw [h.lv]; exact hu
  have hlr : u < bf.length := by rw [h.lr]; exact hu
  refine ⟨?_, World.ownsRow.frozenAt ho u, ⟨(World.ownsRow.stored ho u v').1, fun j hj => ?_, fun i j hi hj hij => ?_, fun j hj => ?_, by simpa using h.lv, by simpa using h.lr⟩⟩
  · rw [World.ownsRow.cellAt ho u (by omega), List.getD]; simp [hlv]
  · by_cases e : u = j
    · subst e
      rw [getD_set_eq _ _ _ _ hlv, getD_set_eq _ _ _ _ hlr]
      exact hv.only ho2 (fun k hk x => hfresh k hk x)
    · rw [getD_set_ne _ _ _ _ _ e, getD_set_ne _ _ _ _ _ e]
      exact ((h.e j hj).only ho1 (fun k hk x => h.a u j hu hj e k x hk)).only ho2 (fun k hk x => h.ob' j hj (x ▸ hk))
  · have aux : ∀ j, j < n → u ≠ j → Apart v' (vals.getD j undef) := fun j hj e k h1 h2 => by
      rcases hm k h1 with x | x
      · exact h.a u j hu hj e k x h2
      · have := (h.e j hj).lt' k h2; omega
    by_cases e : u = i
    · subst e
      rw [getD_set_eq _ _ _ _ hlv, getD_set_ne _ _ _ _ _ hij]
      exact aux j hj hij
    · by_cases e2 : u = j
      · subst e2
        rw [getD_set_eq _ _ _ _ hlv, getD_set_ne _ _ _ _ _ e]
        exact (aux i hi e).symm
      · rw [getD_set_ne _ _ _ _ _ e, getD_set_ne _ _ _ _ _ e2]
        exact h.a i j hi hj hij
  · by_cases e : u = j
    · subst e
      rw [getD_set_eq _ _ _ _ hlv]
      exact fun x => hfresh ob x rfl
    · rw [getD_set_ne _ _ _ _ _ e]; exact h.ob' j hj

/-- What is known in the loops of newSolver. -/
structure NS (w wr : World) (n sp ba bl bw ob bq : Nat) (v0 v1 v2 : Value) (vals : List Value) (al : List Bool) (lf aq : List Int) (bf : List (List Int)) : Prop where
  bx : Below w.heap.size w wr
  g : wr.heap[w.heap.size]? = some (.cells #[v0, v1, v2] 25 (0, 0))
  box : wr.heap[sp]? = some (.cells #[v0, v1, v2, .slice (some ⟨ob, 0, none⟩) n n, .slice (some ⟨ba, 0, none⟩) n n, .slice (some ⟨bl, 0, none⟩) n n, .slice (some ⟨bw, 0, none⟩) n n] 56 (0, 0))
  A : OB wr (w.heap.size + 1) (.slice (some ⟨ba, 0, none⟩) n n) al
  L : OI wr (w.heap.size + 1) (.slice (some ⟨bl, 0, none⟩) n n) lf
  W : OI wr (w.heap.size + 1) (.slice (some ⟨bw, 0, none⟩) n n) (List.replicate n 0)
  Q : OI wr (w.heap.size + 1) (.slice (some ⟨bq, 0, none⟩) n n) aq
  R : Rows wr (w.heap.size + 1) n ob vals bf
  la : al.length = n
  ll : lf.length = n
  lq : aq.length = n
  ne : (ba ≠ bl ∧ ba ≠ bw ∧ bl ≠ bw ∧ ba ≠ sp ∧ bl ≠ sp ∧ bw ≠ sp ∧ ob ≠ sp ∧ ob ≠ ba ∧ ob ≠ bl ∧ ob ≠ bw) ∧ bq ≠ ba ∧ bq ≠ bl ∧ bq ≠ bw ∧ bq ≠ sp ∧ bq ≠ ob
  gt : (w.heap.size < sp ∧ w.heap.size < ba ∧ w.heap.size < bl ∧ w.heap.size < bw ∧ w.heap.size < ob) ∧ w.heap.size < bq
  x : ∀ j, j < n → ∀ b, (vals.getD j undef).ownBlock = some b → b ≠ sp ∧ b ≠ ba ∧ b ≠ bl ∧ b ≠ bw ∧ b ≠ bq

section
variable {w wr w' : World} {n sp ba bl bw ob bq : Nat} {v0 v1 v2 : Value} {vals : List Value} {al : List Bool} {lf aq : List Int} {bf : List (List Int)}
theorem ownB {b k : Nat} {n c : Nat} (h : (Value.slice (some ⟨b, 0, none⟩) n c).ownBlock = some k) : k = b := by simpa [Value.ownBlock] using h.symm
theorem NS.lt (h : NS w wr n sp ba bl bw ob bq v0 v1 v2 vals al lf aq bf) : sp < wr.heap.size ∧ ba < wr.heap.size ∧ bl < wr.heap.size ∧ bw < wr.heap.size ∧ ob < wr.heap.size ∧ bq < wr.heap.size ∧ w.heap.size < wr.heap.size :=
  ⟨(Array.getElem?_eq_some_iff.1 h.box).1, (World.ownsRow.lt h.A ba rfl).2, h.L.lt' bl rfl, h.W.lt' bw rfl, h.R.row.2, h.Q.lt' bq rfl, (Array.getElem?_eq_some_iff.1 h.g).1⟩
/-- Behind a write to one of the lists. -/
theorem NS.setA (h : NS w wr n sp ba bl bw ob bq v0 v1 v2 vals al lf aq bf) (j : Nat) (b : Bool) : NS w (wr.setCell ⟨ba, j, none⟩ (.bool b)) n sp ba bl bw ob bq v0 v1 v2 vals (al.set j b) lf aq bf := by
  have ho : Only (fun k => k = ba) wr (wr.setCell ⟨ba, j, none⟩ (.bool b)) := Only.set ba j _ rfl
  have hn := h.ne
  have hg := h.gt
  have hl := h.lt
  exact { h with
    bx := h.bx.setCell (by show w.heap.size ≤ ba; omega) _
    g := (ho.block _ hl.2.2.2.2.2.2 (by omega)).trans h.g
    box := (ho.block _ hl.1 (by omega)).trans h.box
    A := h.A.set h.la.symm j b
    L := h.L.only ho fun k hk e => by have := ownB hk; omega
    W := h.W.only ho fun k hk e => by have := ownB hk; omega
    Q := h.Q.only ho fun k hk e => by have := ownB hk; omega
    R := h.R.only ho (by omega) fun i hi b hb e => (h.x i hi b hb).2.1 e
    la := by rw [List.length_set]; exact h.la }
theorem NS.setL (h : NS w wr n sp ba bl bw ob bq v0 v1 v2 vals al lf aq bf) (j : Nat) (b : Int) : NS w (wr.setCell ⟨bl, j, none⟩ (.int .i64 b)) n sp ba bl bw ob bq v0 v1 v2 vals al (lf.set j b) aq bf := by
  have ho : Only (fun k => k = bl) wr (wr.setCell ⟨bl, j, none⟩ (.int .i64 b)) := Only.set bl j _ rfl
  have hn := h.ne
  have hg := h.gt
  have hl := h.lt
  exact { h with
    bx := h.bx.setCell (by show w.heap.size ≤ bl; omega) _
    g := (ho.block _ hl.2.2.2.2.2.2 (by omega)).trans h.g
    box := (ho.block _ hl.1 (by omega)).trans h.box
    A := OB.only h.A ho fun k hk e => by have := ownB hk; omega
    L := h.L.set h.ll.symm j b
    W := h.W.only ho fun k hk e => by have := ownB hk; omega
    Q := h.Q.only ho fun k hk e => by have := ownB hk; omega
    R := h.R.only ho (by omega) fun i hi b hb e => (h.x i hi b hb).2.2.1 e
    ll := by rw [List.length_set]; exact h.ll }
theorem NS.setQ (h : NS w wr n sp ba bl bw ob bq v0 v1 v2 vals al lf aq bf) (j : Nat) (b : Int) : NS w (wr.setCell ⟨bq, j, none⟩ (.int .i64 b)) n sp ba bl bw ob bq v0 v1 v2 vals al lf (aq.set j b) bf := by
  have ho : Only (fun k => k = bq) wr (wr.setCell ⟨bq, j, none⟩ (.int .i64 b)) := Only.set bq j _ rfl
  have hn := h.ne
  have hg := h.gt
  have hl := h.lt
  exact { h with
    bx := h.bx.setCell (by show w.heap.size ≤ bq; omega) _
    g := (ho.block _ hl.2.2.2.2.2.2 (by omega)).trans h.g
    box := (ho.block _ hl.1 (by omega)).trans h.box
    A := OB.only h.A ho fun k hk e => by have := ownB hk; omega
    L := h.L.only ho fun k hk e => by have := ownB hk; omega
    W := h.W.only ho fun k hk e => by have := ownB hk; omega
    Q := h.Q.set h.lq.symm j b
    R := h.R.only ho (by omega) fun i hi b hb e => (h.x i hi b hb).2.2.2.2 e
    lq := by rw [List.length_set]; exact h.lq }
/-- A row has grown, and is stored. -/
theorem NS.row (h : NS w wr n sp ba bl bw ob bq v0 v1 v2 vals al lf aq bf) {v' : Value} {u : Nat} {l : List Int} (hu : u < n) (hv : OI w' (w.heap.size + 1) v' l) (hg : wr.grownBy w' (vals.getD u undef).ownBlock) (hm : Moved wr (vals.getD u undef) v') :
    w'.cell? ⟨ob, u, none⟩ = some (vals.getD u undef) ∧ w'.frozen? ⟨ob, u, none⟩ = false ∧ NS w (w'.setCell ⟨ob, u, none⟩ v') n sp ba bl bw ob bq v0 v1 v2 (vals.set u v') al lf aq (bf.set u l) := by
  obtain ⟨r1, r2, r3⟩ := h.R.push hu hv hg hm
  have ho1 : Only (fun k => (vals.getD u undef).ownBlock = some k) wr w' := Only.of_grown hg
  have ho2 : Only (fun k => k = ob) w' (w'.setCell ⟨ob, u, none⟩ v') := Only.set ob u v' rfl
  have ho : Only (fun k => (vals.getD u undef).ownBlock = some k ∨ k = ob) wr (w'.setCell ⟨ob, u, none⟩ v') := (ho1.mono fun _ _ e => .inl e).trans (ho2.mono fun _ _ e => .inr e)
  have hn := h.ne
  have hgt := h.gt
  have hl := h.lt
  have hx := h.x u hu
  have hge := fun k (e : (vals.getD u undef).ownBlock = some k) => (h.R.e u hu).ge k e
  refine ⟨r1, r2, { h with
    bx := h.bx.trans (ho.below _ (fun k hk => by rcases hk with e | e; have := hge k e; omega; omega) h.bx.size)
    g := (ho.block _ hl.2.2.2.2.2.2 (fun e => by rcases e with e | e; have := hge _ e; omega; omega)).trans h.g
    box := (ho.block _ hl.1 (fun e => by rcases e with e | e; exact (hx _ e).1 rfl; omega)).trans h.box
    A := OB.only h.A ho fun k hk e => by have := ownB hk; subst this; rcases e with e | e; exact (hx _ e).2.1 rfl; omega
    L := h.L.only ho fun k hk e => by have := ownB hk; subst this; rcases e with e | e; exact (hx _ e).2.2.1 rfl; omega
    W := h.W.only ho fun k hk e => by have := ownB hk; subst this; rcases e with e | e; exact (hx _ e).2.2.2.1 rfl; omega
    Q := h.Q.only ho fun k hk e => by have := ownB hk; subst this; rcases e with e | e; exact (hx _ e).2.2.2.2 rfl; omega
    R := r3
    x := fun j hj b hb => ?_ }⟩
  have hlv : u < vals.length := by rw [h.R.lv]; exact hu
  by_cases e : u = j
  · subst e
    rw [getD_set_eq _ _ _ _ hlv] at hb
    rcases hm b hb with e | e
    · exact hx b e
    · omega
  · rw [getD_set_ne _ _ _ _ _ e] at hb
    exact h.x j hj b hb
end

/-- The lists behind k positions. -/
def nsAl (n : Nat) : Nat → List Bool
  | 0 => List.replicate n false
  | k + 1 => (nsAl n k).set k true
def nsLf (g : Gm) (n : Nat) : Nat → List Int
  | 0 => List.replicate n 0
  | k + 1 => (nsLf g n k).set k ((g.succ.getD k []).length : Int)
def nsQ (n : Nat) : Nat → List Int
  | 0 => List.replicate n 0
  | k + 1 => (nsQ n k).set k (k : Int)
def nsBf (g : Gm) (n : Nat) : Nat → List (List Int)
  | 0 => List.replicate n []
  | k + 1 => pushAll (nsBf g n k) k (g.succ.getD k [])
theorem nsBf_row (g : Gm) (n : Nat) (hS : ∀ i, (g.succ.getD i []).length ≤ 1000) (k j : Nat) : ((nsBf g n k).getD j []).length ≤ 1000 * k := by
  induction k with
  | zero => simp only [nsBf, List.getD, List.getElem?_replicate]; split <;> simp
  | succ k ih =>
    have h1 := pushAll_row (nsBf g n k) k (g.succ.getD k []) j
    have h2 := hS k
    simp only [nsBf]; omega

/-- What newSolver leaves. -/
def NewSv (w : World) (g : Gm) (n : Nat) (v0 v1 v2 : Value) (e : Ending) (w' : World) : Prop :=
  ∃ sp ba bl bw ob bq vals, e = .returned (.tuple #[.pointer (some ⟨sp, 0, none⟩), .slice (some ⟨bq, 0, none⟩) n n]) ∧ NS w w' n sp ba bl bw ob bq v0 v1 v2 vals (nsAl n n) (nsLf g n n) (nsQ n n) (nsBf g n n)

set_option maxRecDepth 100000 in
set_option maxHeartbeats 8000000 in
theorem newSolver_c (w : World) (v0 v1 v2 : Value) (g : Gm) (n : Nat) (hg : IsGame w (.agg #[v0, v1, v2]) g) (F : Fits g 0 n) (hS : ∀ i, (g.succ.getD i []).length ≤ 1000) :
    Calls Try.prog 30 #[.agg #[v0, v1, v2]] w (NewSv w g n v0 v1 v2) := by
  obtain ⟨u0, u1, u2, hu, ⟨⟨ao0, cap0, b0, off0, h0, g0⟩, _⟩, ⟨⟨ao1, cap1, b1, off1, h1, g1⟩, _⟩, ⟨V, ⟨ao2, cap2, b2, off2, h2, g2⟩, hr⟩⟩ := hg
  obtain ⟨rfl, rfl, rfl⟩ : v0 = u0 ∧ v1 = u1 ∧ v2 = u2 := by simpa using hu
  subst h0 h1 h2
  clear hu
  have hle := F.le
  have hon := F.on
  have hsn := F.sn
  rw [hon] at g0
  rw [hsn] at g2 hr
  have mkb := fun wx => run_make_row' (P := Try.prog) 33 4 (.bool false) 1 Try.underlying33 info_bool rfl .i64 .i64 n (by omega) (by omega) wx
  have mki := fun wx => run_make_row' (P := Try.prog) 22 3 (.int .i64 0) 8 Try.underlying22 info_int rfl .i64 .i64 n (by omega) (by omega) wx
  have mkr := fun wx => run_make_row' (P := Try.prog) 23 22 (.slice none 0 0) 24 Try.underlying23 info_ints rfl .i64 .i64 n (by omega) (by omega) wx
  rw [hon, hsn]
  clear hon hsn g1
  go_enter Try.func30, Try.ntmps30
  go_upto_region 2 with (fail)
  go_cut [5] (fun s5 wx => ∃ sp ba bl bw ob, s5 = .pointer (some ⟨sp, 0, none⟩) ∧ Hid (NS0 w wx n sp ba bl bw ob (.slice ao0 n cap0) (.slice ao1 g.prio.length cap1) (.slice ao2 n cap2)))
  case first =>
    go_region
    all_goals
      go_wp2_with fail
      go_meet
      case rel =>
        refine ⟨w.heap.size + 1 + 1 + 1 + 1 + 1, _, _, _, _, rfl, NS0.mk ?_ ?_ (by rw [drew_heap, alloc_get, if_pos (by simp)]) (by rw [drew_heap]; repeat (rw [alloc_get]; first | rw [if_pos (by first | (simp; done) | (simp; omega))] | rw [if_neg (by first | (simp; done) | (simp; omega))])) (by rw [drew_heap]; repeat (rw [alloc_get]; first | rw [if_pos (by first | (simp; done) | (simp; omega))] | rw [if_neg (by first | (simp; done) | (simp; omega))])) (by rw [drew_heap]; repeat (rw [alloc_get]; first | rw [if_pos (by first | (simp; done) | (simp; omega))] | rw [if_neg (by first | (simp; done) | (simp; omega))])) (by rw [drew_heap]; repeat (rw [alloc_get]; first | rw [if_pos (by first | (simp; done) | (simp; omega))] | rw [if_neg (by first | (simp; done) | (simp; omega))])) ⟨by omega, by omega, by omega, by omega, by omega, by omega, by omega, by omega, by omega, by omega⟩ ⟨by omega, by omega, by omega, by omega, by omega⟩⟩
        · exact (by repeat (first | exact Below.refl _ _ | assumption | (refine belA ?_ _) | (refine belD ?_ _) | (refine Below.drew ?_)))
        · exact (by rw [drew_heap]; repeat (rw [alloc_get]; first | rw [if_pos (by first | (simp; done) | (simp; omega))] | rw [if_neg (by first | (simp; done) | (simp; omega))]))
  case rest =>
    obtain ⟨sp, ba, bl, bw, ob, rfl, H0⟩ := hcut
    clear mkb mki mkr
    have mks := fun wx => run_make_row' (P := Try.prog) 51 3 (.int .i64 0) 8 Try.underlying51 info_int rfl .i64 .i64 n (by omega) (by omega) wx
    have hbx := bel_box (w := wc) (.cells (madeCells #[.int .i64 0] n) 3)
    have hl1 := (Array.getElem?_eq_some_iff.1 H0.out.box).1
    have hl2 := (Array.getElem?_eq_some_iff.1 H0.out.ra).1
    have hl3 := (Array.getElem?_eq_some_iff.1 H0.out.rl).1
    have hl4 := (Array.getElem?_eq_some_iff.1 H0.out.rw').1
    have hl5 := (Array.getElem?_eq_some_iff.1 H0.out.ro).1
    have hl6 := (Array.getElem?_eq_some_iff.1 H0.out.g).1
    have hne := H0.out.ne
    have hgt := H0.out.gt
    have HN : Hid (NS w (wc.alloc (.cells (madeCells #[.int .i64 0] n) 3)) n sp ba bl bw ob wc.heap.size (.slice ao0 n cap0) (.slice ao1 g.prio.length cap1) (.slice ao2 n cap2) (List.replicate n (.slice none 0 0)) (nsAl n 0) (nsLf g n 0) (nsQ n 0) (nsBf g n 0)) :=
      { bx := H0.out.bx.trans (hbx.mono H0.out.bx.size)
        g := (hbx.block _ hl6).trans H0.out.g
        box := (hbx.block _ hl1).trans H0.out.box
        A := OB_made ((hbx.block _ hl2).trans H0.out.ra) (by omega) hle
        L := OI_made ((hbx.block _ hl3).trans H0.out.rl) (by omega) hle
        W := OI_made ((hbx.block _ hl4).trans H0.out.rw') (by omega) hle
        Q := OI_made (heap_alloc_new _ _) (by omega) hle
        R := Rows.made ((hbx.block _ hl5).trans H0.out.ro) (by omega) hle
        la := by simp [nsAl]
        ll := by simp [nsLf]
        lq := by simp [nsQ]
        ne := ⟨hne, by omega, by omega, by omega, by omega, by omega⟩
        gt := ⟨hgt, by omega⟩
        x := fun j hj b hb => by simp [List.getD, hj, Value.ownBlock] at hb }
    have d2 : (wc.alloc (.cells (madeCells #[.int .i64 0] n) 3)).cell? ⟨w.heap.size, 2, none⟩ = some (.slice ao2 n cap2) := cell_of_row _ _ 2 _ _ _ HN.out.g
    clear hbx hl1 hl2 hl3 hl4 hl5 hl6 hne hgt H0
    go_wp2
    clear mks d2
    generalize wc.heap.size = bq at *
    go_loopg [7, 8, 30] n (fun gh _ _ i wr => ∃ (k : Nat) (vals : List Value), gh = n - k ∧ i = .int .i64 k ∧ k ≤ n ∧ Hid (NS w wr n sp ba bl bw ob bq (.slice ao0 n cap0) (.slice ao1 g.prio.length cap1) (.slice ao2 n cap2) vals (nsAl n k) (nsLf g n k) (nsQ n k) (nsBf g n k)))
    case atStart => exact ⟨0, _, by omega, rfl, by omega, HN⟩
    case round =>
      clear HN
      obtain ⟨k, vals, rfl, rfl, hk, HN⟩ := hrel
      by_cases hlt : k < n
      · have hrow := hr k hlt
        have hrg := F.rg k hlt
        have hSk := hS k
        have hrl := nsBf_row g n hS k
        have HA1 : Hid (nsAl n (k + 1) = (nsAl n k).set k true) := rfl
        have HL1 : Hid (nsLf g n (k + 1) = (nsLf g n k).set k ((g.succ.getD k []).length : Int)) := rfl
        have HQ1 : Hid (nsQ n (k + 1) = (nsQ n k).set k (k : Int)) := rfl
        have HB1 : Hid (nsBf g n (k + 1) = pushAll (nsBf g n k) k (g.succ.getD k [])) := rfl
        generalize nsAl n k = al at *
        generalize nsLf g n k = lf at *
        generalize nsQ n k = aq at *
        generalize nsBf g n k = bf at *
        generalize g.succ.getD k [] = row at *
        obtain ⟨⟨ao3, cap3, b3, off3, hv3, g3⟩, -⟩ := hrow
        obtain rfl := g2.ad (by omega)
        have c2 := cellB HN.out.bx (g2.el k hlt)
        rw [hv3] at c2
        have H1 := Lib.hid hrg
        have H2 := Lib.hid hrl
        have hn3 : row.length ≤ 1000 := hSk
        obtain ⟨x3, q1⟩ : ∃ x, wr.cell? ⟨bq, k, none⟩ = some (.int .i64 x) := ⟨_, HN.out.Q.at' HN.out.lq.symm k (by rw [HN.out.lq]; exact hlt)⟩
        have q2 := HN.out.Q.fz HN.out.lq.symm k
        have N1 := HN.out.setQ k (k : Int)
        have e4 := cell_of_row _ _ 4 _ _ _ N1.box
        obtain ⟨x1, a1⟩ : ∃ x, (wr.setCell ⟨bq, k, none⟩ (.int .i64 k)).cell? ⟨ba, k, none⟩ = some (.bool x) := ⟨_, N1.A.at' N1.la.symm k (by rw [N1.la]; exact hlt)⟩
        have a2 := N1.A.fz N1.la.symm k
        have N2 := N1.setA k true
        have e5 := cell_of_row _ _ 5 _ _ _ N2.box
        obtain ⟨x2, l1⟩ : ∃ x, ((wr.setCell ⟨bq, k, none⟩ (.int .i64 k)).setCell ⟨ba, k, none⟩ (.bool true)).cell? ⟨bl, k, none⟩ = some (.int .i64 x) := ⟨_, N2.L.at' N2.ll.symm k (by rw [N2.ll]; exact hlt)⟩
        have l2 := N2.L.fz N2.ll.symm k
        have N3 := N2.setL k (row.length : Int)
        have HN3 := Lib.hid N3
        clear hrg hrl hv3 hSk N1 N2 N3
        go_wp2
        clear q1 q2 e4 a1 a2 e5 l1 l2 c2 HN
        generalize ((wr.setCell ⟨bq, k, none⟩ (.int .i64 k)).setCell ⟨ba, k, none⟩ (.bool true)).setCell ⟨bl, k, none⟩ (.int .i64 row.length) = wy at *
        go_loopg [10, 55] row.length (fun gh _ i wr => ∃ (j : Nat) (vals : List Value), gh = row.length - j ∧ i = .int .i64 j ∧ j ≤ row.length ∧ Hid (NS w wr n sp ba bl bw ob bq (.slice ao0 n cap0) (.slice ao1 g.prio.length cap1) (.slice (some ⟨b2, off2, none⟩) n cap2) vals (al.set k true) (lf.set k row.length) (aq.set k k) (pushAll bf k (row.take j))))
        case atStart => exact ⟨0, _, by omega, rfl, by omega, HN3⟩
        case round =>
          clear HN3
          obtain ⟨j, vals, rfl, rfl, hj, HN⟩ := hrel
          by_cases hltj : j < row.length
          · obtain rfl := g3.ad (by omega)
            have c3 := cellB HN.out.bx (g3.el j hltj)
            unfold ivF at c3
            rw [getD_lt _ _ _ hltj] at c3
            obtain ⟨x0, x1⟩ := H1.out row[j] (List.getElem_mem hltj)
            obtain ⟨m, hm⟩ := Int.eq_ofNat_of_zero_le x0
            have hml : m < n := by omega
            rw [hm] at c3
            have HM := Lib.hid hm
            clear hm x0 x1
            have hE := HN.out.R.e m hml
            have hEl : ((pushAll bf k (row.take j)).getD m []).length ≤ 4000000 := by
              have h1 := pushAll_row bf k (row.take j) m
              have h2 := H2.out m
              have h3 : (row.take j).length ≤ row.length := List.length_take_le' _ _
              omega
            have co := HN.out.R.cell hml
            have e3 := cell_of_row _ _ 3 _ _ _ HN.out.box
            obtain ⟨aom, capm, hvm⟩ := hE.slice
            have HE := Lib.hid hE
            have hvals := Lib.hid hvm
            rw [hvm] at co
            generalize hlen : ((pushAll bf k (row.take j)).getD m []).length = len at *
            have HLEN := Lib.hid hlen
            have hBs : w.heap.size + 1 ≤ wr.heap.size := HN.out.lt.2.2.2.2.2.2
            clear hE hvm hlen
            go_wp2
            clear c3
            have co2 : (wr.alloc (.cells #[.int .i64 (k : Int)] 3)).cell? ⟨ob, m, none⟩ = some (.slice aom len capm) := cellB (bel_box _) co
            have e32 : (wr.alloc (.cells #[.int .i64 (k : Int)] 3)).cell? ⟨sp, 3, none⟩ = some (.slice (some ⟨ob, 0, none⟩) n n) := cellB (bel_box _) e3
            go_region_law ((rw [if_pos (by rfl)]; refine wp_app_int wr _ _ (k : Int) (by rfl) (w.heap.size + 1) (.slice aom len capm) ((pushAll bf k (row.take j)).getD m []) (by rfl) (by rw [← hvals.out]; exact HE.out) (by rfl) (by rw [HLEN.out]; omega) hBs ?_; intro v' w' hown' hg hmv; obtain ⟨aoy, capy, hvy⟩ := hown'.slice; generalize ((pushAll bf k (row.take j)).getD m [] ++ [(k : Int)]).length = len2 at hvy; subst hvy; rw [← hvals.out] at hg hmv; have hq := HN.out.row hml hown' hg hmv; rw [hvals.out] at hq; obtain ⟨cq, fq, bq2⟩ := hq; have BQ := Lib.hid bq2; have e9 : w'.cell? ⟨sp, 3, none⟩ = some (.slice (some ⟨ob, 0, none⟩) n n) := cell_of_row _ _ 3 _ _ _ (((Only.of_grown hg).block _ HN.out.lt.1 (fun e => (HN.out.x m hml _ e).1 rfl)).trans HN.out.box); clear bq2))
            all_goals
              have e : pushAll bf k (row.take (j + 1)) = (pushAll bf k (row.take j)).set m ((pushAll bf k (row.take j)).getD m [] ++ [(k : Int)]) := by
                rw [List.take_succ_eq_append_getElem hltj, pushAll_snoc, HM.out]; rfl
              have BQ2 := BQ.out
              rw [← e] at BQ2
              have BQ3 := Lib.hid BQ2
              clear e BQ2 BQ
              go_wp2
              go_roundg (row.length - (j + 1))
              case rel => exact ⟨j + 1, _, rfl, by go_num, by omega, BQ3⟩
              case measure => omega
          · obtain rfl : j = row.length := by omega
            rw [List.take_length, ← HB1.out, ← HA1.out, ← HL1.out, ← HQ1.out] at HN
            go_wp2
            go_roundg (n - (k + 1))
            case rel => exact ⟨k + 1, vals, rfl, by go_num, by omega, HN⟩
            case measure => omega
      · go_wp2
        obtain rfl : k = n := by omega
        go_ret2
        exact ⟨sp, ba, bl, bw, ob, bq, vals, rfl, HN.out⟩

end Go.Proofs.Ytjhafakkadnfmaa
