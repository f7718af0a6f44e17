/- What begin computes. -/
import Derived.Test.YtjhafakkadnfmaaC13
import Derived.Deep.OwnRows
import Derived.RegionTactic
import Derived.BigRegion
namespace Go.Proofs.Ytjhafakkadnfmaa
open Go.RowKit

/-- What begin leaves behind k positions: the counters, the numbers, the members, the queue, the positions before each. -/
structure Beg where
  inn : List Bool
  mv : List Int
  lf : List Int
  q : List Int
  bf : List (List Int)

/-- One more position before each successor. -/
def pushAll (bf : List (List Int)) (v : Int) : List Int → List (List Int)
  | [] => bf
  | u :: us => pushAll (bf.set u.toNat (bf.getD u.toNat [] ++ [v])) v us

def begSt (g : Gm) (t : List Bool) (n : Nat) : Nat → Beg
  | 0 => ⟨List.replicate n false, List.replicate n 0, List.replicate n 0, [], List.replicate n []⟩
  | k + 1 =>
    let s := begSt g t n k
    let lf := s.lf.set k ((g.succ.getD k []).length : Int)
    let mv := s.mv.set k (-1)
    let bf := pushAll s.bf k (g.succ.getD k [])
    if t.getD k false then ⟨s.inn.set k true, mv.set k 0, lf, s.q ++ [(k : Int)], bf⟩ else ⟨s.inn, mv, lf, s.q, bf⟩

theorem info_ints : (Try.prog.info? 22).map (fun i => (i.zero, i.size, i.bytes)) = some (some (.slice none 0 0), 1, 24) := by kernel_rfl

/-- Rows of numbers of the call's own, one block each, under one block. -/
structure Rows (w : World) (B n ob : Nat) (vals : List Value) (rows : List (List Int)) : Prop where
  o : w.ownsRow B 22 1 (.slice (some ⟨ob, 0, none⟩) n n) n vals
  e : ∀ j, j < n → OI w B (vals.getD j undef) (rows.getD j [])
  a : ∀ i j, i < n → j < n → i ≠ j → Apart (vals.getD i undef) (vals.getD j undef)
  ob' : ∀ j, j < n → (vals.getD j undef).ownBlock ≠ some ob
  lv : vals.length = n
  lr : rows.length = n

theorem OB_made {w : World} {B g n : Nat} (h : w.heap[g]? = some (.cells (madeCells #[.bool false] n) 4 (0, 0))) (hb : B ≤ g) (hn : n ≤ 3000) : OB w B (.slice (some ⟨g, 0, none⟩) n n) (List.replicate n false) := by
  refine ⟨by simp, .inr ⟨g, n, _, ?_, hb, h, ?_, by simp only [maxLen]; omega, by simp [size_madeCells], ?_⟩⟩
  · simp
  · simp
  · rw [toList_madeCells_one]; simp
theorem OI_made {w : World} {B g n : Nat} (h : w.heap[g]? = some (.cells (madeCells #[.int .i64 0] n) 3 (0, 0))) (hb : B ≤ g) (hn : n ≤ 3000) : OI w B (.slice (some ⟨g, 0, none⟩) n n) (List.replicate n 0) := by
  refine ⟨by simp, .inr ⟨g, n, _, ?_, hb, h, ?_, by simp only [maxLen]; omega, by simp [size_madeCells], ?_⟩⟩
  · simp
  · simp
  · rw [toList_madeCells_one]; simp

theorem alloc_get (w : World) (o : Obj) (k : Nat) : (w.alloc o).heap[k]? = if k = w.heap.size then some o else w.heap[k]? := by
  show (w.heap.push o)[k]? = _
  rw [Array.getElem?_push]

theorem drew_heap (w : World) : w.drew.heap = w.heap := rfl

theorem Grow.start {W : World} {B n ga gi gm gl : Nat} (hb : W.heap[ga]? = some (.cells #[.slice (some ⟨gi, 0, none⟩) n n, .slice (some ⟨gm, 0, none⟩) n n, .slice (some ⟨gl, 0, none⟩) n n, .slice none 0 0] 68 (0, 0)))
    (hi : W.heap[gi]? = some (.cells (madeCells #[.bool false] n) 4 (0, 0))) (hm : W.heap[gm]? = some (.cells (madeCells #[.int .i64 0] n) 3 (0, 0))) (hl : W.heap[gl]? = some (.cells (madeCells #[.int .i64 0] n) 3 (0, 0)))
    (hd : B ≤ ga ∧ gi ≠ ga ∧ gm ≠ ga ∧ gl ≠ ga ∧ gi ≠ gm ∧ gi ≠ gl ∧ gm ≠ gl) (hd2 : B ≤ gi ∧ B ≤ gm ∧ B ≤ gl) (hn : n ≤ 3000) :
    Grow W B n ga gi gm gl (.slice none 0 0) (List.replicate n false) (List.replicate n 0) (List.replicate n 0) [] where
  box := hb
  i := OB_made hi hd2.1 hn
  m := OI_made hm hd2.2.1 hn
  l := OI_made hl hd2.2.2 hn
  q := OI_nil _ _
  li := by simp
  lm := by simp
  ll := by simp
  d := hd
  dq := fun k hk => by cases hk

theorem Rows.made {W : World} {B ob n : Nat} (h : W.heap[ob]? = some (.cells (madeCells #[.slice none 0 0] n) 22 (0, 0))) (hb : B ≤ ob) (hn : n ≤ 3000) : Rows W B n ob (List.replicate n (.slice none 0 0)) (List.replicate n []) := by
  have hg : ∀ j, j < n → (List.replicate n (Value.slice none 0 0)).getD j undef = .slice none 0 0 := fun j hj => by simp [List.getD, hj]
  have hg2 : ∀ j, j < n → (List.replicate n ([] : List Int)).getD j [] = [] := fun j hj => by simp [List.getD, hj]
  refine ⟨⟨by simp, .inr ⟨ob, n, _, rfl, hb, h, Nat.le_refl _, by simp only [maxLen]; omega, by simp [size_madeCells], ?_⟩⟩, fun j hj => ?_, fun i j hi hj _ => ?_, fun j hj => ?_, by simp, by simp⟩
  · rw [toList_madeCells_one]; simp
  · rw [hg j hj, hg2 j hj]; exact OI_nil _ _
  · rw [hg i hi]; intro k hk; cases hk
  · rw [hg j hj]; intro hk; cases hk

/-- What is known in begin behind the makes. -/
def BegAt (w wx : World) (cs : Array Value) (n : Nat) (s7 : Value) : Prop :=
  ∃ ga gi gm gl, s7 = .pointer (some ⟨ga, 0, none⟩) ∧ Grow wx (w.heap.size + 1) n ga gi gm gl (.slice none 0 0) (List.replicate n false) (List.replicate n 0) (List.replicate n 0) [] ∧ Boxed w wx cs

theorem Rows.row {w : World} {B n ob : Nat} {vals : List Value} {rows : List (List Int)} (h : Rows w B n ob vals rows) : B ≤ ob ∧ ob < w.heap.size := World.ownsRow.lt h.o ob rfl
theorem Rows.cell {w : World} {B n ob : Nat} {vals : List Value} {rows : List (List Int)} (h : Rows w B n ob vals rows) {j : Nat} (hj : j < n) : w.cell? ⟨ob, j, none⟩ = some (vals.getD j undef) := by
  rw [World.ownsRow.cellAt h.o j (by omega), List.getD]
  have : j < vals.length := by rw [h.lv]; exact hj
  simp [this]
theorem Rows.fz {w : World} {B n ob : Nat} {vals : List Value} {rows : List (List Int)} (h : Rows w B n ob vals rows) (j : Nat) : w.frozen? ⟨ob, j, none⟩ = false := World.ownsRow.frozenAt h.o j

theorem ownsRow_only {S : Nat → Prop} {w w' : World} {base e size n : Nat} {v : Value} {l : List Value} (h : w.ownsRow base e size v n l) (hg : Only S w w') (hne : ∀ k, v.ownBlock = some k → ¬ S k) : w'.ownsRow base e size v n l := by
  refine ⟨h.1, ?_⟩
  rcases h.2 with hn | ⟨g, cap, cur, rfl, hb, hgg, rest⟩
  · exact .inl hn
  · exact .inr ⟨g, cap, cur, rfl, hb, by rw [hg.block g (Array.getElem?_eq_some_iff.1 hgg).1 (hne g rfl)]; exact hgg, rest⟩

theorem Rows.only {S : Nat → Prop} {w w' : World} {B n ob : Nat} {vals : List Value} {rows : List (List Int)} (h : Rows w B n ob vals rows) (hg : Only S w w') (ho : ¬ S ob) (hv : ∀ j, j < n → ∀ b, (vals.getD j undef).ownBlock = some b → ¬ S b) : Rows w' B n ob vals rows :=
  { h with
    o := ownsRow_only h.o hg (fun k hk => by cases hk; exact ho)
    e := fun j hj => (h.e j hj).only hg (hv j hj) }

/-- The growth and the rows before, side by side. -/
structure Both (w : World) (B n ga gi gm gl ob : Nat) (vq : Value) (vals : List Value) (inn : List Bool) (mv lf q : List Int) (bf : List (List Int)) : Prop where
  G : Grow w B n ga gi gm gl vq inn mv lf q
  R : Rows w B n ob vals bf
  x : ∀ j, j < n → ∀ b, (vals.getD j undef).ownBlock = some b → ¬ GrowAt ga gi gm gl vq b
  y : ¬ GrowAt ga gi gm gl vq ob

section
variable {w w' : World} {B n ga gi gm gl ob : Nat} {vq vq' : Value} {vals : List Value} {inn inn' : List Bool} {mv lf q mv' lf' q' : List Int} {bf : List (List Int)}

theorem GrowAt.moved (hm : Moved w vq vq') {b : Nat} (hb : b < w.heap.size) (hn : ¬ GrowAt ga gi gm gl vq b) : ¬ GrowAt ga gi gm gl vq' b := by
  rintro (e | e | e | e | e)
  · exact hn (.inl e)
  · exact hn (.inr (.inl e))
  · exact hn (.inr (.inr (.inl e)))
  · exact hn (.inr (.inr (.inr (.inl e))))
  · rcases hm b e with e | e
    · exact hn (.inr (.inr (.inr (.inr e))))
    · omega

theorem Both.growth (h : Both w B n ga gi gm gl ob vq vals inn mv lf q bf) (ho : Only (GrowAt ga gi gm gl vq) w w') (hG : Grow w' B n ga gi gm gl vq' inn' mv' lf' q') (hm : Moved w vq vq') : Both w' B n ga gi gm gl ob vq' vals inn' mv' lf' q' bf where
  G := hG
  R := h.R.only ho h.y h.x
  x := fun j hj b hb => GrowAt.moved hm ((h.R.e j hj).lt' b hb) (h.x j hj b hb)
  y := GrowAt.moved hm h.R.row.2 h.y

theorem Moved.refl (w : World) (v : Value) : Moved w v v := fun _ h => .inl h

theorem getD_set_eq {α : Type} (l : List α) (i : Nat) (a d : α) (h : i < l.length) : (l.set i a).getD i d = a := by simp [List.getD, h]
theorem getD_set_ne {α : Type} (l : List α) (i j : Nat) (a d : α) (h : i ≠ j) : (l.set i a).getD j d = l.getD j d := by simp [List.getD, List.getElem?_set_ne h]

theorem Both.row {v' : Value} {u : Nat} {l : List Int} (h : Both w B n ga gi gm gl ob vq vals inn mv lf q bf) (hu : u < n) (hv : OI w' B v' l) (hg : w.grownBy w' (vals.getD u undef).ownBlock) (hm : Moved w (vals.getD u undef) v') :
    w'.cell? ⟨ob, u, none⟩ = some (vals.getD u undef) ∧ w'.frozen? ⟨ob, u, none⟩ = false ∧ Both (w'.setCell ⟨ob, u, none⟩ v') B n ga gi gm gl ob vq (vals.set u v') inn mv lf q (bf.set u l) := by
  have ho1 : Only (fun k => (vals.getD u undef).ownBlock = some k) w w' := Only.of_grown hg
  have hG1 : Grow w' B n ga gi gm gl vq inn mv lf q := h.G.only ho1 (fun k hk => h.x u hu k hk)
  have ho : w'.ownsRow B 22 1 (.slice (some ⟨ob, 0, none⟩) n n) n vals := ownsRow_only h.R.o ho1 (fun k hk => by cases hk; exact h.R.ob' u hu)
  have hfresh : ∀ b, v'.ownBlock = some b → b ≠ ob ∧ ¬ GrowAt ga gi gm gl vq b := fun b hb => by
    rcases hm b hb with e | e
    · exact ⟨fun x => h.R.ob' u hu (x ▸ e), h.x u hu b e⟩
    · have hL := h.G.lt
      have hr := h.R.row.2
      refine ⟨by omega, ?_⟩
      rintro (x | x | x | x | x)
      · omega
      · omega
      · omega
      · omega
      · have := h.G.q.lt' b x; omega
  have ho2 : Only (fun k => k = ob) w' (w'.setCell ⟨ob, u, none⟩ v') := Only.set ob u v' rfl
  have hlv : u < vals.length := by rw [h.R.lv]; exact hu
  have hlr : u < bf.length := by rw [h.R.lr]; exact hu
  refine ⟨?_, World.ownsRow.frozenAt ho u, ?_, ?_, ?_, h.y⟩
  · rw [World.ownsRow.cellAt ho u (by omega), List.getD]; simp [hlv]
  · exact hG1.only ho2 (fun k hk x => by subst hk; exact h.y x)
  · refine ⟨(World.ownsRow.stored ho u v').1, fun j hj => ?_, fun i j hi hj hij => ?_, fun j hj => ?_, by simpa using h.R.lv, by simpa using h.R.lr⟩
    · by_cases e : u = j
      · subst e
        rw [getD_set_eq _ _ _ _ hlv, getD_set_eq _ _ _ _ hlr]
        exact hv.only ho2 (fun k hk x => (hfresh k hk).1 x)
      · rw [getD_set_ne _ _ _ _ _ e, getD_set_ne _ _ _ _ _ e]
        exact ((h.R.e j hj).only ho1 (fun k hk x => h.R.a u j hu hj e k x hk)).only ho2 (fun k hk x => h.R.ob' j hj (x ▸ hk))
    · have aux : ∀ j, j < n → u ≠ j → Apart v' (vals.getD j undef) := fun j hj e k h1 h2 => by
        rcases hm k h1 with x | x
        · exact h.R.a u j hu hj e k x h2
        · have := (h.R.e j hj).lt' k h2; omega
      by_cases e : u = i
      · subst e
        rw [getD_set_eq _ _ _ _ hlv, getD_set_ne _ _ _ _ _ hij]
        exact aux j hj hij
      · by_cases e2 : u = j
        · subst e2
          rw [getD_set_eq _ _ _ _ hlv, getD_set_ne _ _ _ _ _ e]
          exact (aux i hi e).symm
        · rw [getD_set_ne _ _ _ _ _ e, getD_set_ne _ _ _ _ _ e2]
          exact h.R.a i j hi hj hij
    · by_cases e : u = j
      · subst e
        rw [getD_set_eq _ _ _ _ hlv]
        exact fun x => (hfresh ob x).1 rfl
      · rw [getD_set_ne _ _ _ _ _ e]; exact h.R.ob' j hj
  · intro j hj b hb
    by_cases e : u = j
    · subst e
      rw [getD_set_eq _ _ _ _ hlv] at hb
      exact (hfresh b hb).2
    · rw [getD_set_ne _ _ _ _ _ e] at hb
      exact h.x j hj b hb
end

theorem pushAll_snoc (bf : List (List Int)) (v u : Int) (l : List Int) : pushAll bf v (l ++ [u]) = (pushAll bf v l).set u.toNat ((pushAll bf v l).getD u.toNat [] ++ [v]) := by
  induction l generalizing bf with
  | nil => rfl
  | cons a l ih => simp only [List.cons_append, pushAll]; exact ih _

theorem pushAll_len (bf : List (List Int)) (v : Int) (l : List Int) : (pushAll bf v l).length = bf.length := by
  induction l generalizing bf with
  | nil => rfl
  | cons a l ih => rw [pushAll, ih]; simp

theorem pushAll_row (bf : List (List Int)) (v : Int) (l : List Int) (j : Nat) : ((pushAll bf v l).getD j []).length ≤ (bf.getD j []).length + l.length := by
  induction l generalizing bf with
  | nil => simp [pushAll]
  | cons a l ih =>
    rw [pushAll]
    refine Nat.le_trans (ih _) ?_
    by_cases e : a.toNat = j
    · subst e
      by_cases h : a.toNat < bf.length
      · rw [getD_set_eq _ _ _ _ h, List.length_append, List.length_singleton, List.length_cons]; omega
      · simp [List.getD, h] <;> omega
    · rw [getD_set_ne _ _ _ _ _ e, List.length_cons]; omega

theorem begSt_len (g : Gm) (t : List Bool) (n k : Nat) : (begSt g t n k).q.length ≤ k ∧ (begSt g t n k).bf.length = n := by
  induction k with
  | zero => simp [begSt]
  | succ k ih =>
    refine ⟨?_, ?_⟩
    · simp only [begSt]; split <;> simp <;> omega
    · simp only [begSt]; split <;> simp [pushAll_len, ih.2]

theorem begSt_row (g : Gm) (t : List Bool) (n : Nat) (hS : ∀ i, (g.succ.getD i []).length ≤ 1000) (k j : Nat) : ((begSt g t n k).bf.getD j []).length ≤ 1000 * k := by
  induction k with
  | zero =>
    simp only [begSt, List.getD, List.getElem?_replicate]
    split <;> simp
  | succ k ih =>
    have h1 := pushAll_row (begSt g t n k).bf k (g.succ.getD k []) j
    have h2 := hS k
    simp only [begSt]
    split <;> (simp only; omega)

theorem Boxed.only {S : Nat → Prop} {w wr w1 : World} {cs : Array Value} (h : Boxed w wr cs) (ho : Only S wr w1) (hS : ∀ k, S k → w.heap.size + 1 ≤ k) : Boxed w w1 cs := h.stepB (ho.below _ hS h.lt)

/-- What begin leaves. -/
def Begun (w : World) (n : Nat) (st : Beg) (e : Ending) (w' : World) : Prop :=
  ∃ ga gi gm gl ob vq vals, e = .returned (.tuple #[.pointer (some ⟨ga, 0, none⟩), .slice (some ⟨ob, 0, none⟩) n n]) ∧ Both w' (w.heap.size + 1) n ga gi gm gl ob vq vals st.inn st.mv st.lf st.q st.bf ∧ Below w.heap.size w w'

set_option maxHeartbeats 4000000 in
theorem begin_c (w : World) (vg vs : Value) (g : Gm) (p : Int) (s : List Bool) (hg : IsGame w vg g) (hs : IsBools w vs s) (F : Fits g p s.length) (hS : ∀ i, (g.succ.getD i []).length ≤ 1000) :
    Calls Try.prog 36 #[vg, vs] w (Begun w s.length (begSt g s s.length s.length)) := by
  obtain ⟨v0, v1, v2, rfl, ⟨⟨ao0, cap0, b0, off0, rfl, g0⟩, _⟩, ⟨⟨ao1, cap1, b1, off1, rfl, g1⟩, _⟩, ⟨V, ⟨ao2, cap2, b2, off2, rfl, g2⟩, hr⟩⟩ := hg
  obtain ⟨aos, caps, bs, offs, rfl, hs⟩ := hs
  have hle := F.le
  have hon := F.on
  have hsn := F.sn
  rw [hon] at g0
  rw [hsn] at g2 hr
  have mkb := fun wx => run_make_row' (P := Try.prog) 66 4 (.bool false) 1 Try.underlying66 info_bool rfl .i64 .i64 s.length (by omega) (by omega) wx
  have mki := fun wx => run_make_row' (P := Try.prog) 22 3 (.int .i64 0) 8 Try.underlying22 info_int rfl .i64 .i64 s.length (by omega) (by omega) wx
  rw [hon, hsn]
  clear hon hsn g1
  go_enter Try.func36, Try.ntmps36
  go_upto_region 2 with (fail)
  go_cut [7] (fun s7 wx => BegAt w wx #[Value.slice ao0 s.length cap0, Value.slice ao1 g.prio.length cap1, Value.slice ao2 s.length cap2] s.length s7)
  case first =>
    go_region
    all_goals
      go_wp2_with fail
      go_meet
      case rel =>
        refine ⟨w.heap.size + 1 + 1 + 1 + 1, _, _, _, rfl, Grow.start (by rw [drew_heap, alloc_get, if_pos (by simp)]) (by rw [drew_heap]; repeat (rw [alloc_get]; first | rw [if_pos (by first | (simp; done) | (simp; omega))] | rw [if_neg (by first | (simp; done) | (simp; omega))])) (by rw [drew_heap]; repeat (rw [alloc_get]; first | rw [if_pos (by first | (simp; done) | (simp; omega))] | rw [if_neg (by first | (simp; done) | (simp; omega))])) (by rw [drew_heap]; repeat (rw [alloc_get]; first | rw [if_pos (by first | (simp; done) | (simp; omega))] | rw [if_neg (by first | (simp; done) | (simp; omega))])) (by omega) (by omega) hle, ⟨?_, (by rw [drew_heap]; repeat (rw [alloc_get]; first | rw [if_pos (by first | (simp; done) | (simp; omega))] | rw [if_neg (by first | (simp; done) | (simp; omega))]))⟩⟩
        exact (by repeat (first | exact Below.refl _ _ | assumption | (refine belA ?_ _) | (refine belD ?_ _) | (refine Below.drew ?_)))
  case rest =>
    obtain ⟨ga, gi, gm, gl, rfl, G, hB⟩ := hcut
    clear mkb mki
    have mkr := fun wx => run_make_row' (P := Try.prog) 23 22 (.slice none 0 0) 24 Try.underlying23 info_ints rfl .i64 .i64 s.length (by omega) (by omega) wx
    have hL := G.lt
    have hst : Both (wc.alloc (.cells (madeCells #[.slice none 0 0] s.length) 22)) (w.heap.size + 1) s.length ga gi gm gl wc.heap.size (.slice none 0 0) (List.replicate s.length (.slice none 0 0)) (List.replicate s.length false) (List.replicate s.length 0) (List.replicate s.length 0) [] (List.replicate s.length []) := by
      refine ⟨G.only (S := fun _ => False) (Only.of_below (bel_box _)) (fun k hk => hk.elim), Rows.made (heap_alloc_new _ _) hB.lt hle, fun j hj b hb => ?_, ?_⟩
      · simp [List.getD, hj, Value.ownBlock] at hb
      · rintro (x | x | x | x | x)
        · omega
        · omega
        · omega
        · omega
        · cases x
    have hB2 := hB.step (bel_box (.cells (madeCells #[.slice none 0 0] s.length) 22))
    have d2 : (wc.alloc (.cells (madeCells #[.slice none 0 0] s.length) 22)).cell? ⟨w.heap.size, 2, none⟩ = some (.slice ao2 s.length cap2) := hB2.cell 2 rfl
    clear hL G
    go_wp2
    clear mkr d2 hB
    generalize wc.heap.size = ob at *
    go_loopg [29] s.length (fun gh i wr => ∃ (k : Nat) (vq : Value) (vals : List Value), gh = s.length - k ∧ i = .int .i64 k ∧ k ≤ s.length ∧ Boxed w wr #[Value.slice ao0 s.length cap0, Value.slice ao1 g.prio.length cap1, Value.slice ao2 s.length cap2] ∧ Both wr (w.heap.size + 1) s.length ga gi gm gl ob vq vals (begSt g s s.length k).inn (begSt g s s.length k).mv (begSt g s s.length k).lf (begSt g s s.length k).q (begSt g s s.length k).bf)
    case atStart => exact ⟨0, _, _, rfl, rfl, by omega, hB2, hst⟩
    case round =>
      obtain ⟨k, vq, vals, hgk, rfl, hk, hB, hb⟩ := hrel
      have HG := Lib.hid hgk
      clear hgk hst hB2
      by_cases hlt : k < s.length
      · have hrow := hr k hlt
        have hrg := F.rg k hlt
        have hSk := hS k
        have hql := (begSt_len g s s.length k).1
        have hrl := begSt_row g s s.length hS k
        have HST : Hid (begSt g s s.length (k + 1) = _) := begSt.eq_2 g s s.length k
        generalize hG : begSt g s s.length k = st at *
        generalize hR : g.succ.getD k [] = row at *
        obtain ⟨⟨ao3, cap3, b3, off3, hv3, g3⟩, -⟩ := hrow
        obtain rfl := g2.ad (by omega)
        obtain rfl := hs.ad (by omega)
        have c2 := cellB hB.bl (g2.el k hlt)
        rw [hv3] at c2
        have H1 := Lib.hid hrg
        have H2 := Lib.hid hrl
        have hn3 : row.length ≤ 1000 := hSk
        clear hrg hrl hv3 hG hR hSk
        have G0 := hb.G
        have hL := G0.lt
        have e2 : wr.cell? ⟨ga, 2, none⟩ = some (.slice (some ⟨gl, 0, none⟩) s.length s.length) := G0.cell 2 rfl
        obtain ⟨xl, cl⟩ : ∃ x, wr.cell? ⟨gl, k, none⟩ = some (.int .i64 x) := ⟨_, G0.l.at' G0.ll.symm k (by rw [G0.ll]; exact hlt)⟩
        have fl := G0.l.fz G0.ll.symm k
        have G1 := G0.setL k (row.length : Int)
        have e1 : (wr.setCell ⟨gl, k, none⟩ (.int .i64 row.length)).cell? ⟨ga, 1, none⟩ = some (.slice (some ⟨gm, 0, none⟩) s.length s.length) := G1.cell 1 rfl
        obtain ⟨xm, cm⟩ : ∃ x, (wr.setCell ⟨gl, k, none⟩ (.int .i64 row.length)).cell? ⟨gm, k, none⟩ = some (.int .i64 x) := ⟨_, G1.m.at' G1.lm.symm k (by rw [G1.lm]; exact hlt)⟩
        have fm := G1.m.fz G1.lm.symm k
        have G2 := G1.setM k (-1)
        have oA : Only (GrowAt ga gi gm gl vq) wr ((wr.setCell ⟨gl, k, none⟩ (.int .i64 row.length)).setCell ⟨gm, k, none⟩ (.int .i64 (-1))) := (Only.set gl k _ (.inr (.inr (.inr (.inl rfl))))).trans (Only.set gm k _ (.inr (.inr (.inl rfl))))
        have b2 := hb.growth oA G2 (Moved.refl _ _)
        have hB2 := hB.only oA (fun k hk => G0.atB hk)
        have HB2 := Lib.hid hB2
        have Hb2 := Lib.hid b2
        clear G0 G1 G2 oA b2 hB2 hL
        go_wp2
        clear e2 cl fl e1 cm fm c2
        generalize (wr.setCell ⟨gl, k, none⟩ (.int .i64 row.length)).setCell ⟨gm, k, none⟩ (.int .i64 (-1)) = wy at *
        go_loopg [12, 50] row.length (fun gh _ i wr => ∃ (j : Nat) (vals : List Value), gh = row.length - j ∧ i = .int .i64 j ∧ j ≤ row.length ∧ Boxed w wr #[Value.slice ao0 s.length cap0, Value.slice ao1 g.prio.length cap1, Value.slice (some ⟨b2, off2, none⟩) s.length cap2] ∧ Both wr (w.heap.size + 1) s.length ga gi gm gl ob vq vals st.inn (st.mv.set k (-1)) (st.lf.set k row.length) st.q (pushAll st.bf k (row.take j)))
        case atStart => exact ⟨0, _, rfl, rfl, by omega, HB2.out, Hb2.out⟩
        case round =>
          obtain ⟨j, vals, hgj, rfl, hj, hB3, hb3⟩ := hrel
          have HGJ := Lib.hid hgj
          clear hgj hB hb HB2 Hb2
          by_cases hltj : j < row.length
          · obtain rfl := g3.ad (by omega)
            have c3 := cellB hB3.bl (g3.el j hltj)
            unfold ivF at c3
            rw [getD_lt _ _ _ hltj] at c3
            obtain ⟨x0, x1⟩ := H1.out row[j] (List.getElem_mem hltj)
            obtain ⟨m, hm⟩ := Int.eq_ofNat_of_zero_le x0
            have hml : m < s.length := by omega
            rw [hm] at c3
            have HM := Lib.hid hm
            clear hm x0 x1
            have hE := hb3.R.e m hml
            have hEl : ((pushAll st.bf k (row.take j)).getD m []).length ≤ 4000000 := by
              have h1 := pushAll_row st.bf k (row.take j) m
              have h2 := H2.out m
              have h3 : (row.take j).length ≤ row.length := List.length_take_le' _ _
              omega
            have co := hb3.R.cell hml
            obtain ⟨aom, capm, hvm⟩ := hE.slice
            have HE := Lib.hid hE
            have Hb3 := Lib.hid hb3
            have hvals := Lib.hid hvm
            rw [hvm] at co
            generalize hlen : ((pushAll st.bf k (row.take j)).getD m []).length = len at *
            have HLEN := Lib.hid hlen
            have hBs := hB3.lt
            clear hE hb3 hvm hlen
            go_wp2_with (at_builtin; refine app_int rfl _ _ (k : Int) rfl (w.heap.size + 1) (.slice aom len capm) _ (by rw [← hvals.out]; exact HE.out) rfl _ (by simp) rfl (by rw [HLEN.out]; omega) hBs ?_; intro v' w' hown' hg hmv; obtain ⟨aoy, capy, hvy⟩ := hown'.slice; generalize ((pushAll st.bf k (row.take j)).getD m [] ++ [(k : Int)]).length = len2 at hvy; subst hvy; rw [← hvals.out] at hg hmv; have hq := Hb3.out.row hml hown' hg hmv; rw [hvals.out] at hq; obtain ⟨cq, fq, bq⟩ := hq; have BQ := Lib.hid bq; clear bq)
            go_roundg (row.length - (j + 1))
            case measure => have := HGJ.out; omega
            case rel =>
              refine ⟨j + 1, vals.set m (.slice aoy len2 capy), rfl, by go_num, by omega, ?_, ?_⟩
              · exact (hB3.grown (v := .slice aom len capm) (by rw [← hvals.out]; exact hg) (fun b hb => (HE.out.ge b (by rw [hvals.out]; exact hb)))).stepB ((Below.refl _ _).setCell Hb3.out.R.row.1 _)
              · have e : pushAll st.bf k (row.take (j + 1)) = (pushAll st.bf k (row.take j)).set m ((pushAll st.bf k (row.take j)).getD m [] ++ [(k : Int)]) := by
                  rw [List.take_succ_eq_append_getElem hltj, pushAll_snoc, HM.out]; rfl
                rw [e]
                exact BQ.out
          · obtain rfl : j = row.length := by omega
            rw [List.take_length] at hb3
            have hkl : k < s.length := hlt
            have c5 := cellB hB3.bl (hs.el k hlt)
            unfold bvF at c5
            rw [getD_lt _ _ _ hlt] at c5
            have A : Hid (s.getD k false = s[k]) := getD_lt _ _ _ hlt
            cases hq : s[k]
            · rw [hq] at c5
              go_wp2
              go_roundg (s.length - (k + 1))
              case measure => have := HG.out; omega
              case rel =>
                refine ⟨k + 1, vq, vals, rfl, by go_num, by omega, hB3, ?_⟩
                rw [HST.out, A.out, hq]
                exact hb3
            · rw [hq] at c5
              have HT : Hid (Calls Try.prog 40 #[.pointer (some ⟨ga, 0, none⟩), .int .i64 k, .int .i64 0] wr (Took wr (w.heap.size + 1) s.length ga gi gm gl vq st.inn (st.mv.set k (-1)) (st.lf.set k row.length) st.q k 0)) := take_c wr _ _ ga gi gm gl vq _ _ _ _ k 0 hb3.G hlt (by omega) hB3.lt
              have Hb4 := Lib.hid hb3
              clear hb3
              go_wp2_with fail
              refine HT.out.mono ?_
              rintro e w5 ⟨rfl, vq', G5, o5, m5⟩
              have B5 := Lib.hid (Hb4.out.growth o5 G5 m5)
              have HB5 := Lib.hid (hB3.only o5 (fun k hk => Hb4.out.G.atB hk))
              clear G5 o5 m5
              go_wp2
              go_roundg (s.length - (k + 1))
              case measure => have := HG.out; omega
              case rel =>
                refine ⟨k + 1, vq', vals, rfl, by go_num, by omega, HB5.out, ?_⟩
                rw [HST.out, A.out, hq]
                exact B5.out
      · go_wp2
        obtain rfl : k = s.length := by omega
        go_ret2
        exact ⟨ga, gi, gm, gl, ob, vq, vals, rfl, hb, hB.bl⟩

end Go.Proofs.Ytjhafakkadnfmaa
