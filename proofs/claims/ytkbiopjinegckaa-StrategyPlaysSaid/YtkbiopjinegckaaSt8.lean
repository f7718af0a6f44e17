/- The search for components in memory: what the boxes, the map, the stack, the open positions and the components hold, and what each step makes of them. -/
import Derived.Test.YtkbiopjinegckaaSt7
import Derived.Test.YtkbiopjinegckaaStM
import Derived.Test.YtkbiopjinegckaaSt6
namespace Go.Proofs.Ytkbiopjinegckaa
open Go.RowKit

/-- The head of a row. -/
theorem OI.cut {w : World} {B g n cap : Nat} {l : List Int} (h : OI w B (.slice (some ⟨g, 0, none⟩) n cap) l) {k : Nat} (hk : k ≤ l.length) : OI w B (.slice (some ⟨g, 0, none⟩) k cap) (l.take k) := by
  have hl : (l.take k).length = k := by rw [List.length_take]; omega
  unfold OI at h ⊢
  rw [hl]
  refine ⟨by simp; omega, ?_⟩
  rcases h.2 with ⟨h', _⟩ | ⟨g', cap', cur, hv, hb, hg, hnc, hcm, hcs, ht⟩
  · cases h'
  · refine .inr ⟨g', cap', cur, ?_, hb, hg, by omega, hcm, hcs, ?_⟩
    · injection hv with h1 h2 h3
      rw [h1, h3]
    · rw [Nat.mul_one] at ht ⊢
      rw [List.map_take, ← ht, List.take_take, Nat.min_eq_left hk]

def castL (l : List Nat) : List Int := l.map Int.ofNat
theorem castL_len (l : List Nat) : (castL l).length = l.length := by simp [castL]
theorem castL_app (a b : List Nat) : castL (a ++ b) = castL a ++ castL b := by simp [castL]
theorem castL_one (x : Nat) : castL [x] = [(x : Int)] := rfl
theorem castL_mem {l : List Nat} {x : Nat} : (x : Int) ∈ castL l ↔ x ∈ l := by
  unfold castL
  rw [List.mem_map]
  refine ⟨fun ⟨y, h1, h2⟩ => ?_, fun h => ⟨x, h, rfl⟩⟩
  have e : y = x := Int.ofNat.inj h2
  exact e ▸ h1
theorem castL_idx (l : List Nat) (x : Nat) : (castL l).idxOf (x : Int) = l.idxOf x := by
  induction l with
  | nil => rfl
  | cons y l ih =>
    show List.idxOf (x : Int) ((y : Int) :: castL l) = _
    rw [List.idxOf_cons, List.idxOf_cons, ih]
    by_cases e : y = x
    · subst e; simp
    · have h1 : ((y : Int) == (x : Int)) = false := by rw [beq_eq_false_iff_ne]; omega
      have h2 : (y == x) = false := by simpa using e
      rw [h1, h2]
theorem castL_i64 {l : List Nat} {n : Nat} (h : ∀ v ∈ l, v < n) (hn : n ≤ 100000) : ∀ x ∈ castL l, I64 x := fun x hx => by
  obtain ⟨v, hv, rfl⟩ := List.mem_map.1 hx
  have := h v hv
  show I64 (v : Int)
  unfold I64; omega
theorem castL_drop (l : List Nat) (k : Nat) : castL (l.drop k) = (castL l).drop k := by simp [castL]
theorem castL_take (l : List Nat) (k : Nat) : castL (l.take k) = (castL l).take k := by simp [castL]
theorem castL_get {l : List Nat} {k : Nat} (hk : k < l.length) : (castL l).getD k 0 = ((l.getD k 0 : Nat) : Int) := by simp [castL, List.getD, hk]

/-- The addresses of the search. -/
structure Va where
  zo : Nat
  mb : Nat
  zs : Nat
  zr : Nat
  zv : Nat
  za : Nat
  gb : Nat
  nb : Nat
  ob : Nat
  n : Nat
  V : Nat → Value
/-- What the search writes to. -/
def HotV (D : Va) (vs va : Value) (B k : Nat) : Prop := k = D.mb ∨ k = D.zs ∨ k = D.za ∨ k = D.ob ∨ vs.ownBlock = some k ∨ va.ownBlock = some k ∨ B ≤ k
def Va.fn (D : Va) : Value := .func (.func 49) #[] #[.pointer (some ⟨D.zo, 0, none⟩), .pointer (some ⟨D.zs, 0, none⟩), .pointer (some ⟨D.zr, 0, none⟩), .pointer (some ⟨D.zv, 0, none⟩), .pointer (some ⟨D.za, 0, none⟩)]
/-- What stays. -/
structure VCon (D : Va) (W : World) (vp : Value) (prio : List Int) (nx : List (List Int)) (cs : List (List Nat)) (vals : List Value) : Prop where
  o : W.heap[D.zo]? = some (.cells #[.map (some D.mb)] 54 (0, 0))
  r : W.heap[D.zr]? = some (.cells #[.pointer (some ⟨D.gb, 0, none⟩)] 59 (0, 0))
  v : W.heap[D.zv]? = some (.cells #[D.fn] 77 (0, 0))
  g : GrC W D.gb D.nb D.ob D.n D.V vp prio nx
  c : ∀ j, j < cs.length → IsInts W (vals.getD j undef) (castL (cs.getD j []))
/-- The state of the search. -/
structure VS (D : Va) (B : Nat) (W : World) (vp : Value) (prio : List Int) (nx : List (List Int)) (ord stk : List Nat) (opn : List Bool) (cs : List (List Nat)) (vs va : Value) (vals : List Value) : Prop where
  con : ∀ W', Only (HotV D vs va W.heap.size) W W' → VCon D W' vp prio nx cs vals
  num : NumL W D.mb (castL ord)
  bs : W.heap[D.zs]? = some (.cells #[vs] 22 (0, 0))
  os : OI W B vs (castL stk)
  ba : W.heap[D.za]? = some (.cells #[va] 23 (0, 0))
  oa : W.ownsRow B 22 1 va cs.length vals
  oo : OB W 0 (.slice (some ⟨D.ob, 0, none⟩) D.n D.n) opn
  ap : Apart vs va
  lt : D.mb < B ∧ D.zs < B ∧ D.za < B ∧ D.ob < B
  ne : D.mb ≠ D.zs ∧ D.mb ≠ D.za ∧ D.mb ≠ D.ob ∧ D.zs ≠ D.za ∧ D.zs ≠ D.ob ∧ D.za ≠ D.ob
  hB : B ≤ W.heap.size
section
variable {D : Va} {B : Nat} {W W1 : World} {vp : Value} {prio : List Int} {nx : List (List Int)} {ord stk : List Nat} {opn : List Bool} {cs : List (List Nat)} {vs va vs' va' : Value} {vals : List Value}
theorem VS.now (h : VS D B W vp prio nx ord stk opn cs vs va vals) : VCon D W vp prio nx cs vals := h.con W (Only.refl _ _)
/-- What is hot behind a step was hot ahead of it, or is new. -/
theorem VS.hot (ho : Only (HotV D vs va W.heap.size) W W1) (h1 : ∀ k, vs'.ownBlock = some k → vs.ownBlock = some k ∨ W.heap.size ≤ k) (h2 : ∀ k, va'.ownBlock = some k → va.ownBlock = some k ∨ W.heap.size ≤ k) {W' : World}
    (hW : Only (HotV D vs' va' W1.heap.size) W1 W') : Only (HotV D vs va W.heap.size) W W' := by
  refine ho.trans (hW.mono fun k _ hk => ?_)
  rcases hk with h | h | h | h | h | h | h
  · exact .inl h
  · exact .inr (.inl h)
  · exact .inr (.inr (.inl h))
  · exact .inr (.inr (.inr (.inl h)))
  · rcases h1 k h with e | e
    · exact .inr (.inr (.inr (.inr (.inl e))))
    · exact .inr (.inr (.inr (.inr (.inr (.inr e)))))
  · rcases h2 k h with e | e
    · exact .inr (.inr (.inr (.inr (.inr (.inl e)))))
    · exact .inr (.inr (.inr (.inr (.inr (.inr e)))))
  · exact .inr (.inr (.inr (.inr (.inr (.inr (Nat.le_trans ho.size h))))))
theorem VS.sge (h : VS D B W vp prio nx ord stk opn cs vs va vals) : ∀ k, vs.ownBlock = some k → B ≤ k ∧ k < W.heap.size := fun k hk => ⟨h.os.ge k hk, h.os.lt' k hk⟩
theorem VS.age (h : VS D B W vp prio nx ord stk opn cs vs va vals) : ∀ k, va.ownBlock = some k → B ≤ k ∧ k < W.heap.size := fun k hk => World.ownsRow.lt h.oa k hk
theorem VS.below (h : VS D B W vp prio nx ord stk opn cs vs va vals) (hb : Below W.heap.size W W1) : VS D B W1 vp prio nx ord stk opn cs vs va vals :=
  { h with
    con := fun W' hW => h.con W' (VS.hot (Only.of_below hb) (fun _ => .inl) (fun _ => .inl) hW)
    num := h.num.kept (below_grown hb) (by simp)
    bs := (hb.block _ (Array.getElem?_eq_some_iff.1 h.bs).1).trans h.bs
    os := h.os.below hb
    ba := (hb.block _ (Array.getElem?_eq_some_iff.1 h.ba).1).trans h.ba
    oa := ownsRow_only h.oa (S := fun _ => False) (Only.of_below hb) (fun _ _ => id)
    oo := h.oo.below hb
    hB := Nat.le_trans h.hB hb.size }
/-- A number is given. -/
theorem VS.number (h : VS D B W vp prio nx ord stk opn cs vs va vals) {v : Nat} (hn : NumL W1 D.mb (castL (ord ++ [v]))) (hg : W.grownBy W1 (some D.mb)) :
    VS D B W1 vp prio nx (ord ++ [v]) stk opn cs vs va vals ∧ Only (HotV D vs va W.heap.size) W W1 := by
  have ho1 : Only (fun k => k = D.mb) W W1 := (Only.of_grown hg).mono fun k _ e => (Option.some.inj e).symm
  have ho : Only (HotV D vs va W.heap.size) W W1 := ho1.mono fun k _ e => .inl e
  have hlt := h.lt
  have hne := h.ne
  refine ⟨{ h with
    con := fun W' hW => h.con W' (VS.hot ho (fun _ => .inl) (fun _ => .inl) hW)
    num := hn
    bs := (ho1.block _ (Array.getElem?_eq_some_iff.1 h.bs).1 (by omega)).trans h.bs
    os := h.os.only ho1 fun k hk e => by have := (h.sge k hk).1; omega
    ba := (ho1.block _ (Array.getElem?_eq_some_iff.1 h.ba).1 (by omega)).trans h.ba
    oa := ownsRow_only h.oa ho1 fun k hk e => by have := (h.age k hk).1; omega
    oo := h.oo.only ho1 fun k hk e => by
      have : D.ob = k := by simpa [Value.ownBlock] using hk
      omega
    hB := Nat.le_trans h.hB hg.size }, ho⟩
/-- A position is put on the stack. -/
theorem VS.push (h : VS D B W vp prio nx ord stk opn cs vs va vals) {v : Nat} (h1 : OI W1 B vs' (castL stk ++ [(v : Int)])) (hg : W.grownBy W1 vs.ownBlock) (hm : Moved W vs vs') :
    VS D B (W1.setCell ⟨D.zs, 0, none⟩ vs') vp prio nx ord (stk ++ [v]) opn cs vs' va vals ∧ Only (HotV D vs va W.heap.size) W (W1.setCell ⟨D.zs, 0, none⟩ vs') ∧ W1.heap[D.zs]? = some (.cells #[vs] 22 (0, 0)) := by
  have ho1 : Only (fun k => vs.ownBlock = some k) W W1 := Only.of_grown hg
  have ho2 : Only (fun k => k = D.zs) W1 (W1.setCell ⟨D.zs, 0, none⟩ vs') := Only.set _ _ _ rfl
  have hlt := h.lt
  have hne := h.ne
  have hs := h.sge
  have ha := h.age
  have ho : Only (HotV D vs va W.heap.size) W (W1.setCell ⟨D.zs, 0, none⟩ vs') := (ho1.mono fun k _ e => .inr (.inr (.inr (.inr (.inl e))))).trans (ho2.mono fun k _ e => .inr (.inl e))
  have hbs : W1.heap[D.zs]? = some (.cells #[vs] 22 (0, 0)) := (ho1.block _ (Array.getElem?_eq_some_iff.1 h.bs).1 fun e => by have := hs _ e; omega).trans h.bs
  refine ⟨{ h with
    con := fun W' hW => h.con W' (VS.hot ho hm (fun _ => .inl) hW)
    num := (h.num.kept hg fun e => by have := hs _ e.symm; omega).kept (grown_set _ _ _ _) (by simp; omega)
    bs := one_set hbs
    os := by
      rw [castL_app, castL_one]
      exact h1.only ho2 fun k hk e => by have := h1.ge k hk; omega
    ba := (ho2.block _ (by have := (Array.getElem?_eq_some_iff.1 h.ba).1; have := hg.size; omega) (by omega)).trans ((ho1.block _ (Array.getElem?_eq_some_iff.1 h.ba).1 fun e => by have := hs _ e; omega).trans h.ba)
    oa := ownsRow_only (ownsRow_only h.oa ho1 fun k hk e => h.ap k e hk) ho2 fun k hk e => by have := ha k hk; omega
    oo := (h.oo.only ho1 fun k hk e => by
      have : D.ob = k := by simpa [Value.ownBlock] using hk
      have := hs k e; omega).only ho2 fun k hk e => by
      have : D.ob = k := by simpa [Value.ownBlock] using hk
      omega
    ap := (h.ap.symm.moved hm fun k hk => (ha k hk).2).symm
    hB := Nat.le_trans h.hB ho.size }, ho, hbs⟩
/-- A position is closed. -/
theorem VS.shut (h : VS D B W vp prio nx ord stk opn cs vs va vals) (j : Nat) (b : Bool) (hl : opn.length = D.n) :
    VS D B (W.setCell ⟨D.ob, j, none⟩ (.bool b)) vp prio nx ord stk (opn.set j b) cs vs va vals ∧ Only (HotV D vs va W.heap.size) W (W.setCell ⟨D.ob, j, none⟩ (.bool b)) := by
  have ho1 : Only (fun k => k = D.ob) W (W.setCell ⟨D.ob, j, none⟩ (.bool b)) := Only.set _ _ _ rfl
  have ho : Only (HotV D vs va W.heap.size) W (W.setCell ⟨D.ob, j, none⟩ (.bool b)) := ho1.mono fun k _ e => .inr (.inr (.inr (.inl e)))
  have hlt := h.lt
  have hne := h.ne
  refine ⟨{ h with
    con := fun W' hW => h.con W' (VS.hot ho (fun _ => .inl) (fun _ => .inl) hW)
    num := h.num.kept (grown_set _ _ _ _) (by simp; omega)
    bs := (ho1.block _ (Array.getElem?_eq_some_iff.1 h.bs).1 (by omega)).trans h.bs
    os := h.os.only ho1 fun k hk e => by have := (h.sge k hk).1; omega
    ba := (ho1.block _ (Array.getElem?_eq_some_iff.1 h.ba).1 (by omega)).trans h.ba
    oa := ownsRow_only h.oa ho1 fun k hk e => by have := (h.age k hk).1; omega
    oo := h.oo.set hl.symm j b
    hB := Nat.le_trans h.hB ho.size }, ho⟩
/-- A component is put to the others. -/
theorem VS.comp (h : VS D B W vp prio nx ord stk opn cs vs va vals) {u : Value} {c : List Nat} (h1 : W1.ownsRow B 22 1 va' (cs.length + 1) (vals ++ [u])) (hg : W.grownBy W1 va.ownBlock) (hm : Moved W va va')
    (hu : ∀ W', Only (HotV D vs va W.heap.size) W W' → IsInts W' u (castL c)) :
    VS D B (W1.setCell ⟨D.za, 0, none⟩ va') vp prio nx ord stk opn (cs ++ [c]) vs va' (vals ++ [u]) ∧ Only (HotV D vs va W.heap.size) W (W1.setCell ⟨D.za, 0, none⟩ va') ∧ W1.heap[D.za]? = some (.cells #[va] 23 (0, 0)) := by
  have ho1 : Only (fun k => va.ownBlock = some k) W W1 := Only.of_grown hg
  have ho2 : Only (fun k => k = D.za) W1 (W1.setCell ⟨D.za, 0, none⟩ va') := Only.set _ _ _ rfl
  have hlt := h.lt
  have hne := h.ne
  have hs := h.sge
  have ha := h.age
  have ho : Only (HotV D vs va W.heap.size) W (W1.setCell ⟨D.za, 0, none⟩ va') := (ho1.mono fun k _ e => .inr (.inr (.inr (.inr (.inr (.inl e)))))).trans (ho2.mono fun k _ e => .inr (.inr (.inl e)))
  have hba : W1.heap[D.za]? = some (.cells #[va] 23 (0, 0)) := (ho1.block _ (Array.getElem?_eq_some_iff.1 h.ba).1 fun e => by have := ha _ e; omega).trans h.ba
  have hl : vals.length = cs.length := by have := h.oa.1; simpa using this
  refine ⟨{ h with
    con := fun W' hW => by
      have hW2 := VS.hot ho (fun _ => .inl) hm hW
      have k := h.con W' hW2
      refine { k with c := fun j hj => ?_ }
      rw [List.length_append, List.length_singleton] at hj
      by_cases e : j < cs.length
      · have := k.c j e
        rw [show (vals ++ [u]).getD j undef = vals.getD j undef by simp [List.getD, List.getElem?_append_left (show j < vals.length by omega)], show (cs ++ [c]).getD j [] = cs.getD j [] by simp [List.getD, List.getElem?_append_left e]]
        exact this
      · obtain rfl : j = cs.length := by omega
        rw [show (vals ++ [u]).getD cs.length undef = u by simp [List.getD, ← hl], show (cs ++ [c]).getD cs.length [] = c by simp [List.getD]]
        exact hu W' hW2
    num := (h.num.kept hg fun e => by have := ha _ e.symm; omega).kept (grown_set _ _ _ _) (by simp; omega)
    bs := (ho2.block _ (by have := (Array.getElem?_eq_some_iff.1 h.bs).1; have := hg.size; omega) (by omega)).trans ((ho1.block _ (Array.getElem?_eq_some_iff.1 h.bs).1 fun e => by have := ha _ e; omega).trans h.bs)
    os := (h.os.only ho1 fun k hk e => h.ap k hk e).only ho2 fun k hk e => by have := hs k hk; omega
    ba := one_set hba
    oa := by
      rw [List.length_append, List.length_singleton]
      exact ownsRow_only h1 ho2 fun k hk e => by have := World.ownsRow.lt h1 k hk; omega
    oo := (h.oo.only ho1 fun k hk e => by
      have : D.ob = k := by simpa [Value.ownBlock] using hk
      have := ha k e; omega).only ho2 fun k hk e => by
      have : D.ob = k := by simpa [Value.ownBlock] using hk
      omega
    ap := h.ap.moved hm fun k hk => (hs k hk).2
    hB := Nat.le_trans h.hB ho.size }, ho, hba⟩
/-- The stack is cut. -/
theorem VS.pop (h : VS D B W vp prio nx ord stk opn cs vs va vals) {k : Nat} (h1 : OI W B vs' (castL (stk.take k))) (hv : vs'.ownBlock = vs.ownBlock) :
    VS D B (W.setCell ⟨D.zs, 0, none⟩ vs') vp prio nx ord (stk.take k) opn cs vs' va vals ∧ Only (HotV D vs va W.heap.size) W (W.setCell ⟨D.zs, 0, none⟩ vs') := by
  have ho2 : Only (fun k => k = D.zs) W (W.setCell ⟨D.zs, 0, none⟩ vs') := Only.set _ _ _ rfl
  have hlt := h.lt
  have hne := h.ne
  have hs := h.sge
  have ha := h.age
  have ho : Only (HotV D vs va W.heap.size) W (W.setCell ⟨D.zs, 0, none⟩ vs') := ho2.mono fun k _ e => .inr (.inl e)
  refine ⟨{ h with
    con := fun W' hW => h.con W' (VS.hot ho (fun k hk => .inl (hv ▸ hk)) (fun _ => .inl) hW)
    num := h.num.kept (grown_set _ _ _ _) (by simp; omega)
    bs := one_set h.bs
    os := h1.only ho2 fun k hk e => by have := h1.ge k hk; omega
    ba := (ho2.block _ (Array.getElem?_eq_some_iff.1 h.ba).1 (by omega)).trans h.ba
    oa := ownsRow_only h.oa ho2 fun k hk e => by have := ha k hk; omega
    oo := h.oo.only ho2 fun k hk e => by
      have : D.ob = k := by simpa [Value.ownBlock] using hk
      omega
    ap := fun k h1 h2 => h.ap k (hv ▸ h1) h2
    hB := Nat.le_trans h.hB ho.size }, ho⟩
end

end Go.Proofs.Ytkbiopjinegckaa
