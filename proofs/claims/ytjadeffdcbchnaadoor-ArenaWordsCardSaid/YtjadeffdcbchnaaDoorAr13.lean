/- What Build's loop has made: rows, boxes and the map, which lie apart from each other. -/
import Derived.Test.YtjadeffdcbchnaaDoorAr11
import Derived.Test.YtjadeffdcbchnaaDoorAr12
import Derived.RangeFuncWrites
import Derived.RangeFuncNested
import Derived.RangeFuncBox
import Derived.OwnWalkIn
import Derived.Maps.OwnIn
namespace Go.Proofs.YtjadeffdcbchnaaDoor
open Go.RowKit Go.Shelf Go.Maps Go.WideMaps

/-! Rows of places. -/
def plCs (y : Pl) : List Value := [.int .i64 y.st, .int .i64 y.inn, .int .i64 y.pr]
def plsC (l : List Pl) : List Value := l.flatMap plCs
theorem plsC_len (l : List Pl) : (plsC l).length = l.length * 3 := by
  induction l with
  | nil => rfl
  | cons s r ih => simp only [plsC, List.flatMap_cons, List.length_append, List.length_cons] at *; rw [ih]; simp [plCs]; omega
theorem plsC_get (l : List Pl) (j k : Nat) (hj : j < l.length) (hk : k < 3) : (plsC l)[j * 3 + k]? = (plCs l[j])[k]? := by
  induction l generalizing j with
  | nil => simp at hj
  | cons s r ih =>
    simp only [plsC, List.flatMap_cons] at *
    cases j with
    | zero => rw [List.getElem?_append_left (by simp [plCs]; omega)]; simp
    | succ j =>
      rw [List.getElem?_append_right (by simp [plCs]; omega)]
      have := ih j (by simpa using hj)
      simp only [plCs, List.length_cons, List.length_nil, List.getElem_cons_succ] at this ⊢
      rw [← this]
      congr 1
      omega
theorem plsC_snoc (l : List Pl) (y : Pl) : plsC (l ++ [y]) = plsC l ++ plCs y := by simp [plsC]

/-- A row of places of the call's own. -/
def OP (w : World) (base : Nat) (v : Value) (l : List Pl) : Prop := w.ownsRow base 48 3 v l.length (plsC l)
theorem OP.slice {w : World} {base : Nat} {v : Value} {l : List Pl} (h : OP w base v l) : ∃ ao cap, v = .slice ao l.length cap := by
  rcases h.2 with ⟨hv, h0⟩ | ⟨g, cap, cur, hv, hb, hg, _⟩
  · exact ⟨none, 0, by rw [hv, h0]⟩
  · exact ⟨_, cap, hv⟩
theorem OP.at' {w : World} {base g n cap : Nat} {l : List Pl} (h : OP w base (.slice (some ⟨g, 0, none⟩) n cap) l) (hn : n = l.length) (j : Nat) (hj : j < l.length) :
    w.cell? ⟨g, j * 3, none⟩ = some (.int .i64 l[j].st) ∧ w.cell? ⟨g, j * 3 + 1, none⟩ = some (.int .i64 l[j].inn) ∧ w.cell? ⟨g, j * 3 + 2, none⟩ = some (.int .i64 l[j].pr) := by
  subst hn
  have hc : ∀ k, k < 3 → w.cell? ⟨g, j * 3 + k, none⟩ = (plCs l[j])[k]? := fun k hk => by
    rw [World.ownsRow.cellAt h (j * 3 + k) (by omega), plsC_get l j k hj hk]
  exact ⟨hc 0 (by omega), hc 1 (by omega), hc 2 (by omega)⟩
theorem info_place : (Tryd.prog.info? 48).map (fun i => (i.zero, i.size, i.bytes)) = some (some (.agg #[.int .i64 0, .int .i64 0, .int .i64 0]), 3, 24) := by kernel_rfl

/-- 'append' to a row of the call's own, inside a fence. -/
theorem wpListIn_app {F : Fence} {nF : Nat} {P : Program} {ops : Array Oper} {rest : List Oper} {o : Oper} {a : Act} {Q : Exit → Act → World → Prop} {w : World} (hgd : o.guard = none) (s x : Operand) (t e : TypeId) (size bytes : Nat) (z : Value)
    (ho : o.op = .call { callee := .builtin .append, args := #[s, x], argTypes := #[t, t] })
    (ht : P.underlying t = some (.slice e)) (hinfo : (P.info? e).map (fun i => (i.zero, i.size, i.bytes)) = some (some z, size, bytes)) (hzs : z.cells.size = size) (hsz : 0 < size)
    (base : Nat) (v : Value) (n : Nat) (xs : List Value) (hs : a.eval s = v) (hown : w.ownsRow base e size v n xs)
    (ad : Addr) (m c : Nat) (news : List Value) (hx : a.eval x = .slice (some ad) m c) (hl : news.length = m * size) (hnews : ∀ j u, news[j]? = some u → w.cell? (ad.add j) = some u) (h1 : ∀ u ∈ news, u.oneCell' = true)
    (h63 : n + m ≤ maxLen) (hbytes : (n + m) * bytes ≤ 140737488355328) (hbase : base ≤ w.heap.size)
    (h : ∀ v' w', w'.ownsRow base e size v' (n + m) (xs ++ news) → w.grownBy w' v.ownBlock → Moved w v v' → wpListIn F nF P ops Q rest (a.put o.dst v') w') :
    wpListIn F nF P ops Q (o :: rest) a w := by
  refine wpListIn_plain hgd fun K hK => ?_
  obtain ⟨i, hi, hz0, hz1, hz2⟩ := info_parts hinfo
  obtain ⟨v', w', hr, h2, h3, h4⟩ := run_append_own (P := P) w base t o.type e i z size bytes ht hi hz0 hz1 hz2 hzs hsz v n xs hown ad m c news hl hnews h1 h63 hbytes hbase
  have h5 := run_append_fresh (P := P) w base t o.type e i z size bytes ht hi hz0 hz1 hz2 v n xs hown ad m c news hl hnews h1 h63 hbytes v' w' hr
  unfold Oper.wpIn
  refine ⟨by simp [Oper.about, ho, resolve, Target.leads, Sem.run_pure], ?_⟩
  rw [Oper.semAt_plain F _ _ (by rw [ho]; intro c hc'; cases hc')]
  simp [execOp, ho, resolve, invoke, builtin, hs, hx, hr, Result.andThen]
  exact hK _ _ (h v' w' h2 h3 (fun g hg => (h5 g hg).imp id (fun e => by omega)))

/-- The same of one element, which lies in the newest block. -/
theorem wpListIn_appN {F : Fence} {nF : Nat} {P : Program} {ops : Array Oper} {rest : List Oper} {o : Oper} {a : Act} {Q : Exit → Act → World → Prop} {w : World} (hgd : o.guard = none) (s x : Operand) (t e : TypeId) (size bytes : Nat) (z : Value) (cs : Array Value)
    (ho : o.op = .call { callee := .builtin .append, args := #[s, x], argTypes := #[t, t] })
    (ht : P.underlying t = some (.slice e)) (hinfo : (P.info? e).map (fun i => (i.zero, i.size, i.bytes)) = some (some z, size, bytes)) (hzs : z.cells.size = size) (hsz : 0 < size)
    (base : Nat) (v : Value) (n : Nat) (xs : List Value) (hs : a.eval s = v) (hown : w.ownsRow base e size v n xs)
    (m : Nat) (hm : m = w.heap.size) (hx : a.eval x = .slice (some ⟨m, 0, none⟩) 1 1) (hl : cs.size = size) (h1 : ∀ u ∈ cs.toList, u.oneCell' = true)
    (h63 : n + 1 ≤ maxLen) (hbytes : (n + 1) * bytes ≤ 140737488355328) (hbase : base ≤ w.heap.size)
    (h : ∀ v' w', w'.ownsRow base e size v' (n + 1) (xs ++ cs.toList) → w.grownBy w' v.ownBlock → Moved w v v' → wpListIn F nF P ops Q rest (a.put o.dst v') w') :
    wpListIn F nF P ops Q (o :: rest) a (w.alloc (.cells cs e)) := by
  subst hm
  refine wpListIn_app hgd s x t e size bytes z ho ht hinfo hzs hsz base v n xs hs (hown.alloc _) ⟨w.heap.size, 0, none⟩ 1 1 cs.toList hx (by simpa using hl) (World.news_of_block (cs := cs) (t := e) (fr := (0, 0)) (heap_alloc_new w _)) h1 h63 hbytes (by simp; omega) ?_
  intro v' w' h1 h2 h4
  refine h v' w' h1 ⟨h2.os, h2.tape, h2.output, by have := h2.size; simp at this; omega, fun k hk hr => ?_⟩ (fun g hg => ?_)
  · rw [h2.block k (by simp; omega) hr]; exact (bel_box (w := w) _).block k hk
  · rcases h4 g hg with e | e
    · exact .inl e
    · refine .inr ?_
      simp at e; omega

/-- A place is appended. -/
theorem appIn_place {F : Fence} {nF : Nat} {ops : Array Oper} {rest : List Oper} {o : Oper} {a : Act} {Q : Exit → Act → World → Prop} {w : World} (hgd : o.guard = none) (s x : Operand) (y : Pl)
    (ho : o.op = .call { callee := .builtin .append, args := #[s, x], argTypes := #[34, 34] })
    (base : Nat) (v : Value) (l : List Pl) (hown : OP w base v l) (hs : a.eval s = v) (m : Nat) (hm : m = w.heap.size) (hx : a.eval x = .slice (some ⟨m, 0, none⟩) 1 1)
    (hn : l.length < 5864062014000) (hbase : base ≤ w.heap.size)
    (h : ∀ v' w', OP w' base v' (l ++ [y]) → w.grownBy w' v.ownBlock → Moved w v v' → wpListIn F nF Tryd.prog ops Q rest (a.put o.dst v') w') :
    wpListIn F nF Tryd.prog ops Q (o :: rest) a (w.alloc (.cells #[.int .i64 y.st, .int .i64 y.inn, .int .i64 y.pr] 48)) := by
  refine wpListIn_appN hgd s x _ _ 3 24 _ #[.int .i64 y.st, .int .i64 y.inn, .int .i64 y.pr] ho Tryd.underlying34 info_place rfl (by decide) base v l.length _ hs hown m hm hx rfl (by simp [Value.oneCell']) (by simp only [maxLen]; omega) (by omega) hbase fun v' w' h1 h2 h3 => h v' w' ?_ h2 h3
  unfold OP
  rw [List.length_append, plsC_snoc]
  exact h1

/-- A number is appended. -/
theorem appIn_int {F : Fence} {nF : Nat} {ops : Array Oper} {rest : List Oper} {o : Oper} {a : Act} {Q : Exit → Act → World → Prop} {w : World} (hgd : o.guard = none) (s x : Operand) (b : Int)
    (ho : o.op = .call { callee := .builtin .append, args := #[s, x], argTypes := #[26, 26] })
    (base : Nat) (v : Value) (l : List Int) (hown : OI w base v l) (hs : a.eval s = v) (m : Nat) (hm : m = w.heap.size) (hx : a.eval x = .slice (some ⟨m, 0, none⟩) 1 1)
    (hn : l.length < 17592186043904) (hbase : base ≤ w.heap.size)
    (h : ∀ v' w', OI w' base v' (l ++ [b]) → w.grownBy w' v.ownBlock → Moved w v v' → wpListIn F nF Tryd.prog ops Q rest (a.put o.dst v') w') :
    wpListIn F nF Tryd.prog ops Q (o :: rest) a (w.alloc (.cells #[.int .i64 b] 3)) := by
  refine wpListIn_appN hgd s x _ _ 1 8 _ #[.int .i64 b] ho Tryd.underlying26 info_int rfl (by decide) base v l.length _ hs hown m hm hx rfl (by simp [Value.oneCell']) (by simp only [maxLen]; omega) (by omega) hbase fun v' w' h1 h2 h3 => h v' w' ?_ h2 h3
  unfold OI
  simpa using h1

/-- The first entry of a map literal. -/
theorem wpListIn_insert_own {H : Type} {F : Fence} {nF : Nat} {P : Program} (w : World) {ops : Array Oper} {rest : List Oper} {o : Oper} {a : Act} {Q : Exit → Act → World → Prop}
    (hg : o.guard = none) (m x v : Operand) (t : TypeId) (hop : o.op = Op.insert t m x v)
    (k e : TypeId) (K : Keyed P k) (ht : P.underlying t = some (.map k e)) (R : Value → Option (DataW H × List MemPlace)) (b n : Nat) (D : DataW H)
    (hm : a.eval m = .map (some b)) (hown : w.ownsMap P k R b n D) (hn : n < maxLen) (key val : Value) (kl : Lit) (hx : a.eval x = key) (hv : a.eval v = val) (hkey : keyOf P k key = some kl)
    (d : DataW H) (ps : List MemPlace) (hval : R val = some (d, ps))
    (hK : ∀ w', w'.ownsMap P k R b (n + 1) (D.put kl d) → w.grownBy w' (some b) → wpListIn F nF P ops Q rest (a.put o.dst undef) w') :
    wpListIn F nF P ops Q (o :: rest) a w := by
  refine wpListIn_plain hg fun K' hK' => ?_
  obtain ⟨w', hrun, r1, r2⟩ := hown.update K ht hn hkey hval
  unfold Oper.wpIn
  refine ⟨by simp [Oper.about, hop], ?_⟩
  rw [Oper.semAt_plain F _ _ (by rw [hop]; intro c hc'; cases hc')]
  simp [execOp, hop, hm, hx, hv, hrun, Result.andThen]
  exact hK' _ _ (hK w' r1 r2)

/-! Blocks. -/
theorem ownsRow_blk {w w' : World} {base : Nat} {e : TypeId} {size n : Nat} {v : Value} {xs : List Value} (h : w.ownsRow base e size v n xs) (hb : ∀ k, v.ownBlock = some k → w'.heap[k]? = w.heap[k]?) : w'.ownsRow base e size v n xs := by
  refine ⟨h.1, ?_⟩
  rcases h.2 with hn | ⟨g, cap, cur, rfl, hbg, hgg, rest⟩
  · exact .inl hn
  · exact .inr ⟨g, cap, cur, rfl, hbg, by rw [hb g rfl]; exact hgg, rest⟩
theorem ownsRow_cells {w : World} {base : Nat} {e : TypeId} {size n : Nat} {v : Value} {xs : List Value} (h : w.ownsRow base e size v n xs) {g : Nat} (hg : v.ownBlock = some g) : ∃ o, w.heap[g]? = some o ∧ o.isCells = true := by
  rcases h.2 with ⟨rfl, _⟩ | ⟨g', cap, cur, rfl, hbg, hgg, rest⟩
  · cases hg
  · cases hg; exact ⟨_, hgg, rfl⟩
theorem NumM.blk {w w' : World} {b : Nat} {l : List Pl} (h : NumM w b l) (hb : w'.heap[b]? = w.heap[b]?) : NumM w' b l := by
  obtain ⟨D, ⟨es, clock, h1, h2⟩, h3⟩ := h
  exact ⟨D, ⟨es, clock, by rw [hb]; exact h1, h2⟩, h3⟩

theorem GB.blk {w w' : World} {B z : Nat} {v0 v1 v2 : Value} {vals others : List Value} {gm : Gm} (h : GB w B z v0 v1 v2 vals gm others) (hs : w.heap.size ≤ w'.heap.size)
    (hb : ∀ u ∈ boxV z :: v0 :: v1 :: v2 :: vals, ∀ k, u.ownBlock = some k → w'.heap[k]? = w.heap[k]?) : GB w' B z v0 v1 v2 vals gm others :=
  { h with
    box := by rw [hb (boxV z) (by simp) z rfl]; exact h.box
    o := ownsRow_blk h.o (hb v0 (by simp))
    p := ownsRow_blk h.p (hb v1 (by simp))
    r := ownsRow_blk h.r (hb v2 (by simp))
    e := fun j hj => ownsRow_blk (h.e j hj) (hb _ (by
      have hl : j < vals.length := by rw [h.vl]; exact hj
      rw [getD_lt _ _ _ hl]; simp))
    lt := fun u hu g hg => Nat.lt_of_lt_of_le (h.lt u hu g hg) hs }
theorem GB.perm {w : World} {B z : Nat} {v0 v1 v2 : Value} {vals others others' : List Value} {gm : Gm} (h : GB w B z v0 v1 v2 vals gm others) (hp : others.Perm others') : GB w B z v0 v1 v2 vals gm others' :=
  { h with
    sep := h.sep.perm (by
      refine .cons _ (.cons _ (.cons _ (.cons _ ?_)))
      exact hp.append_left vals)
    lt := fun u hu => h.lt u (hp.mem_iff.2 hu) }
theorem GB.sub {w : World} {B z : Nat} {v0 v1 v2 : Value} {vals others others' : List Value} {gm : Gm} (h : GB w B z v0 v1 v2 vals gm others) (hp : others'.Sublist others) : GB w B z v0 v1 v2 vals gm others' :=
  { h with
    sep := List.Pairwise.sublist (by simp [hp]) h.sep
    lt := fun u hu => h.lt u (hp.subset hu) }
theorem GB.oneAt {w : World} {B z : Nat} {v0 v1 v2 : Value} {vals others : List Value} {gm : Gm} (h : GB w B z v0 v1 v2 vals gm others) {u : Value} (hu : u ∈ boxV z :: v0 :: v1 :: v2 :: vals) {i : Nat} {v : Value} (hi : others[i]? = some v) : Apart u v := by
  obtain ⟨j, hj, rfl⟩ := List.getElem_of_mem hu
  have hj2 : j < vals.length + 4 := by simpa using hj
  refine h.sep.get (i := j) (j := gm.succ.length + i + 4) (by have := h.vl; omega) ?_ (h.otherAt hi)
  have : (boxV z :: v0 :: v1 :: v2 :: (vals ++ others)) = (boxV z :: v0 :: v1 :: v2 :: vals) ++ others := rfl
  rw [this, List.getElem?_append_left hj]; simp
theorem GB.twoAt {w : World} {B z : Nat} {v0 v1 v2 : Value} {vals others : List Value} {gm : Gm} (h : GB w B z v0 v1 v2 vals gm others) {i j : Nat} (hij : i ≠ j) {u v : Value} (hi : others[i]? = some u) (hj : others[j]? = some v) : Apart u v := h.apart hij hi hj

/-- One of the other rows grows, and is stored in its box. -/
theorem GB.app {w w' : World} {B z : Nat} {v0 v1 v2 : Value} {vals others : List Value} {gm : Gm} (h : GB w B z v0 v1 v2 vals gm others) {i j : Nat} {v v' : Value} {b : Nat} (hij : i ≠ j) (hi : others[i]? = some v) (hj : others[j]? = some (boxV b))
    (hg : w.grownBy w' v.ownBlock) (hm : Moved w v v') (hv' : ∀ g, v'.ownBlock = some g → g < w'.heap.size) (x : Value) :
    GB (w'.setCell ⟨b, 0, none⟩ x) B z v0 v1 v2 vals gm (others.set i v') ∧ w'.heap[b]? = w.heap[b]? ∧ v'.ownBlock ≠ some b ∧
      ∀ m u, m ≠ i → m ≠ j → others[m]? = some u → ∀ k, u.ownBlock = some k → (w'.setCell ⟨b, 0, none⟩ x).heap[k]? = w.heap[k]? := by
  have h1 := h.other hi hg hm hv'
  have hb : b < w.heap.size := h.lt (boxV b) (List.mem_of_getElem? hj) b rfl
  have hvb : Apart v (boxV b) := h.twoAt hij hi hj
  have hil : i < others.length := (List.getElem?_eq_some_iff.1 hi).1
  have hj' : (others.set i v')[j]? = some (boxV b) := by rw [List.getElem?_set_ne hij]; exact hj
  have hi' : (others.set i v')[i]? = some v' := by rw [List.getElem?_set_self hil]
  refine ⟨h1.blk (by rw [World.size_setCell]; exact Nat.le_refl _) fun u hu k hk => ?_, hg.block b hb (fun e => hvb b e.symm rfl), fun e => h1.twoAt hij hi' hj' b e rfl, fun m u hmi hmj hu k hk => ?_⟩
  · refine heap_set_ne _ _ _ _ _ ?_
    rintro rfl
    exact h1.oneAt hu hj' k hk rfl
  · have hkl := h.lt u (List.mem_of_getElem? hu) k hk
    have a1 : Apart u v := h.twoAt hmi hu hi
    have a2 : Apart u (boxV b) := h.twoAt hmj hu hj
    rw [heap_set_ne _ _ _ _ _ (fun e => a2 k hk (by rw [e]; rfl))]
    exact hg.block k hkl (fun e => a1 k hk e.symm)

/-- What the others own stays where a row of the game grows. -/
theorem GB.othBlk {w w' : World} {B z : Nat} {v0 v1 v2 : Value} {vals others : List Value} {gm : Gm} (h : GB w B z v0 v1 v2 vals gm others) {v : Value} (hv : v = v0 ∨ v = v1 ∨ v = v2) (hg : w.grownBy w' v.ownBlock) (j : Nat) (x : Value) {i : Nat} {u : Value} (hu : others[i]? = some u) {k : Nat} (hk : u.ownBlock = some k) :
    (w'.setCell ⟨z, j, none⟩ x).heap[k]? = w.heap[k]? := by
  have hkl := h.lt u (List.mem_of_getElem? hu) k hk
  have a1 : Apart v u := h.oneAt (by rcases hv with rfl | rfl | rfl <;> simp) hu
  have a2 : Apart (boxV z) u := h.oneAt (by simp) hu
  rw [heap_set_ne _ _ _ _ _ (fun e => a2 z rfl (by rw [← e]; exact hk))]
  exact hg.block k hkl (fun e => a1 k e.symm hk)

/-- What the loop has made: z: the game's block; zp, zm, zn: the blocks of the places' box, of the map and of its box. -/
structure BO (w : World) (B z zp zm zn : Nat) (v0 v1 v2 vp : Value) (vals : List Value) (gm : Gm) (pls : List Pl) : Prop where
  g : GB w B z v0 v1 v2 vals gm [vp, boxV zp, boxV zm, boxV zn]
  p : OP w B vp pls
  bp : w.heap[zp]? = some (.cells #[vp] 34 (0, 0))
  m : NumM w zm pls
  bn : w.heap[zn]? = some (.cells #[.map (some zm)] 72 (0, 0))
  lo : B ≤ zp ∧ B ≤ zm

/-- The same within a round: zS: the block of the successors' box; Bp, Bb: those of the iterator. -/
structure BI (w : World) (B z zp zm zn zS Bp Bb : Nat) (v0 v1 v2 vp vS : Value) (vals : List Value) (gm : Gm) (pls ml : List Pl) (nums : List Int) : Prop where
  g : GB w B z v0 v1 v2 vals gm [vS, boxV zS, vp, boxV zp, boxV zm, boxV zn, boxV Bp, boxV Bb]
  o : OI w B vS nums
  bs : w.heap[zS]? = some (.cells #[vS] 26 (0, 0))
  p : OP w B vp pls
  bp : w.heap[zp]? = some (.cells #[vp] 34 (0, 0))
  m : NumM w zm ml
  bn : w.heap[zn]? = some (.cells #[.map (some zm)] 72 (0, 0))
  lo : B ≤ zS ∧ B ≤ zp ∧ B ≤ zm

section
variable {w w' : World} {B z zp zm zn zS Bp Bb : Nat} {v0 v1 v2 vp vS : Value} {vals : List Value} {gm : Gm} {pls ml : List Pl} {nums : List Int}

theorem BO.below (h : BO w B z zp zm zn v0 v1 v2 vp vals gm pls) (hb : Below w.heap.size w w') : BO w' B z zp zm zn v0 v1 v2 vp vals gm pls :=
  { g := h.g.below hb
    p := ownsRow_blk h.p fun k hk => hb.block k (h.g.lt vp (by simp) k hk)
    bp := (hb.block _ (Array.getElem?_eq_some_iff.1 h.bp).1).trans h.bp
    m := h.m.below hb
    bn := (hb.block _ (Array.getElem?_eq_some_iff.1 h.bn).1).trans h.bn
    lo := h.lo }
theorem BI.below (h : BI w B z zp zm zn zS Bp Bb v0 v1 v2 vp vS vals gm pls ml nums) (hb : Below w.heap.size w w') : BI w' B z zp zm zn zS Bp Bb v0 v1 v2 vp vS vals gm pls ml nums :=
  { g := h.g.below hb
    o := ownsRow_blk h.o fun k hk => hb.block k (h.g.lt vS (by simp) k hk)
    bs := (hb.block _ (Array.getElem?_eq_some_iff.1 h.bs).1).trans h.bs
    p := ownsRow_blk h.p fun k hk => hb.block k (h.g.lt vp (by simp) k hk)
    bp := (hb.block _ (Array.getElem?_eq_some_iff.1 h.bp).1).trans h.bp
    m := h.m.below hb
    bn := (hb.block _ (Array.getElem?_eq_some_iff.1 h.bn).1).trans h.bn
    lo := h.lo }

/-- A round begins: the successors' box and the iterator's boxes are new. -/
theorem BO.open (h : BO w B z zp zm zn v0 v1 v2 vp vals gm pls) (hB : B ≤ w.heap.size) (hb : Below w.heap.size w w') (hs : w.heap.size ≤ zS ∧ zS < w'.heap.size) (hp : w.heap.size ≤ Bp ∧ Bp < w'.heap.size) (hq : w.heap.size ≤ Bb ∧ Bb < w'.heap.size) (n1 : zS ≠ Bp) (n2 : zS ≠ Bb) (n3 : Bp ≠ Bb)
    (hbs : w'.heap[zS]? = some (.cells #[.slice none 0 0] 26 (0, 0))) : BI w' B z zp zm zn zS Bp Bb v0 v1 v2 vp (.slice none 0 0) vals gm pls pls [] := by
  have h1 := h.below hb
  have hl := h.g.lts
  refine { g := ?_, o := OI_nil _ _, bs := hbs, p := h1.p, bp := h1.bp, m := h1.m, bn := h1.bn, lo := ⟨by omega, h.lo.1, h.lo.2⟩ }
  have hsep : Sep (.slice none 0 0 :: boxV zS :: boxV Bp :: boxV Bb :: (boxV z :: v0 :: v1 :: v2 :: (vals ++ [vp, boxV zp, boxV zm, boxV zn]))) := by
    have q : ∀ {x : Nat}, w.heap.size ≤ x → ∀ u ∈ boxV z :: v0 :: v1 :: v2 :: (vals ++ [vp, boxV zp, boxV zm, boxV zn]), Apart (boxV x) u := fun {x} hx u hu g hg hg2 => by
      cases hg
      have h3 : x < w.heap.size := hl u hu x hg2
      omega
    have d : ∀ {x y : Nat}, x ≠ y → Apart (boxV x) (boxV y) := fun hxy g hg hg2 => by cases hg; cases hg2; exact hxy rfl
    refine List.pairwise_cons.2 ⟨fun x _ => apart_none rfl, List.pairwise_cons.2 ⟨fun u hu => ?_, List.pairwise_cons.2 ⟨fun u hu => ?_, List.pairwise_cons.2 ⟨fun u hu => q hq.1 u hu, h.g.sep⟩⟩⟩⟩
    · rcases List.mem_cons.1 hu with rfl | hu
      · exact d n1
      rcases List.mem_cons.1 hu with rfl | hu
      · exact d n2
      · exact q hs.1 u hu
    · rcases List.mem_cons.1 hu with rfl | hu
      · exact d n3
      · exact q hp.1 u hu
  refine { h1.g with sep := hsep.perm ?_, lt := fun u hu g hg => ?_ }
  · have e1 : (Value.slice none 0 0 :: boxV zS :: boxV Bp :: boxV Bb :: (boxV z :: v0 :: v1 :: v2 :: (vals ++ [vp, boxV zp, boxV zm, boxV zn]))) = [.slice none 0 0, boxV zS, boxV Bp, boxV Bb] ++ ((boxV z :: v0 :: v1 :: v2 :: vals) ++ [vp, boxV zp, boxV zm, boxV zn]) := rfl
    have e2 : (boxV z :: v0 :: v1 :: v2 :: (vals ++ [.slice none 0 0, boxV zS, vp, boxV zp, boxV zm, boxV zn, boxV Bp, boxV Bb])) = (boxV z :: v0 :: v1 :: v2 :: vals) ++ ([.slice none 0 0, boxV zS] ++ ([vp, boxV zp, boxV zm, boxV zn] ++ [boxV Bp, boxV Bb])) := rfl
    rw [e1, e2]
    have e3 : ([.slice none 0 0, boxV zS, boxV Bp, boxV Bb] : List Value) = [.slice none 0 0, boxV zS] ++ [boxV Bp, boxV Bb] := rfl
    rw [e3, List.append_assoc]
    refine .trans (.append_left _ List.perm_append_comm) ?_
    rw [List.append_assoc]
    refine .trans List.perm_append_comm ?_
    rw [List.append_assoc]
    refine .append_left _ ?_
    exact List.perm_append_comm
  · simp only [List.mem_cons, List.not_mem_nil, or_false] at hu
    rcases hu with rfl | rfl | rfl | rfl | rfl | rfl | rfl | rfl
    · cases hg
    · cases hg; exact hs.2
    · exact h1.g.lt u (by simp) g hg
    · exact h1.g.lt (boxV zp) (by simp) g hg
    · exact h1.g.lt (boxV zm) (by simp) g hg
    · exact h1.g.lt (boxV zn) (by simp) g hg
    · cases hg; exact hp.2
    · cases hg; exact hq.2

end

end Go.Proofs.YtjadeffdcbchnaaDoor
