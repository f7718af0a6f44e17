/- Slices, rows of one's own, automata: the two Valid; slices: Clone, Ints; maps that number. -/
import Derived.Test.YtdkpdpcecjcmcaaQRdC
namespace Go.Proofs.Ytdkpdpcecjcmcaa
open Go.RowKit
open Go Go.RowKit
open Go.RowKit Go.Maps Go.WideMaps

theorem wp_app_ints {o : Oper} {a : Act} {K : Act → World → Prop} {Q : Exit → Act → World → Prop} (w : World) (s x : Operand)
    (ho : o.op = .call { callee := .builtin .append, args := #[s, x], argTypes := #[29, 29] })
    (base : Nat) (v v2 : Value) (l l2 : List Int) (hs : a.eval s = v) (hown : OI w base v l) (hx : a.eval x = v2) (hsrc : IsInts w v2 l2)
    (hn : l.length + l2.length ≤ 17592186043904) (hbase : base ≤ w.heap.size)
    (h : ∀ v' w', OI w' base v' (l ++ l2) → w.grownBy w' v.ownBlock → K (a.put o.dst v') w') : Oper.wp Try.prog o a w K Q := by
  obtain ⟨i, hi, hz0, hz1, hz2⟩ := info_parts info_int
  obtain ⟨⟨ao, cap, b, off, rfl, g⟩, -⟩ := hsrc
  have e : (List.range l2.length).map (ivF l2) = l2.map (Value.int .i64) := by
    apply List.ext_getElem (by simp)
    intro j h1 h2
    have : j < l2.length := by simpa using h1
    simp [ivF, this]
  cases ao with
  | none =>
    have hm0 : l2.length = 0 := by rcases Nat.eq_zero_or_pos l2.length with h0 | h0; exact h0; have := g.ad h0; cases this
    have hl2 := List.eq_nil_of_length_eq_zero hm0
    subst hl2
    obtain rfl := g.nc rfl
    have hrun := run_append_owned_none (P := Try.prog) (w := w) base 29 o.type 3 i 1 Try.underlying29 hi v l.length _ hown
    unfold Oper.wp execOp
    simp only [ho, resolve, invoke, builtin, Sem.run_bind, Sem.run_pure, Result.andThen_ok, List.map_toArray, List.map_cons, List.map_nil, hs, hx]
    simp only [List.length_nil, hrun]
    exact h _ _ (by simpa using hown) (grown_refl _ _)
  | some ad =>
    obtain ⟨v', w', hr, h2, h3, h4⟩ := run_append_own (P := Try.prog) w base 29 o.type 3 i _ 1 8 Try.underlying29 hi hz0 hz1 hz2 rfl (by decide) v l.length _ hown ad l2.length cap ((List.range l2.length).map (ivF l2)) (by simp) (by
      intro j u hj
      have hjm : j < l2.length := by
        rcases Nat.lt_or_ge j l2.length with h | h
        · exact h
        · simp [Nat.not_lt.2 h] at hj
      have hadd := g.ad (by omega)
      simp only [Option.some.injEq] at hadd
      subst hadd
      have : ivF l2 j = u := by simpa [hjm] using hj
      subst this
      have h2 := g.el j hjm
      unfold Addr.add
      split
      · subst j; exact h2
      · exact h2) (by
      intro u hu
      obtain ⟨j, _, rfl⟩ := List.mem_map.1 hu
      rfl) (by simp only [maxLen]; omega) (by omega) hbase
    unfold Oper.wp execOp
    simp only [ho, resolve, invoke, builtin, Sem.run_bind, Sem.run_pure, Result.andThen_ok, List.map_toArray, List.map_cons, List.map_nil, hs, hx, hr]
    refine h _ _ ?_ h3
    unfold OI
    rw [e] at h2
    simpa using h2

theorem OB_emptyN (w : World) (n : Nat) (h : n = w.heap.size) : OB (w.alloc (.cells #[] 4)) n (.slice (some ⟨n, 0, none⟩) 0 0) [] := h ▸ World.ownsRow_made w #[] 0 (Nat.le_refl _) (by simp [maxLen]) rfl

theorem mk_rowsI {ops : Array Oper} {rest : List Oper} {o : Oper} {a : Act} {Q : Exit → Act → World → Prop} {w : World} (hgd : o.guard = none) (l c : Operand) (t : TypeId) (ht : Try.prog.underlying t = some (.slice 29))
    (ho : o.op = Op.makeSlice t l c) (base : Nat) (L : Int) (n : Nat) (hl : a.eval l = .int .i64 L) (hc : a.eval c = .int .i64 L) (hL : L = (n : Int)) (hn : n ≤ 11728124028000) (hbase : base ≤ w.heap.size)
    (h : ∀ w', w'.ownsRow base 29 1 (.slice (some ⟨w.heap.size, 0, none⟩) n n) n (List.replicate n (.slice none 0 0)) → w.grownBy w' none → wpList Try.prog ops Q rest (a.put o.dst (.slice (some ⟨w.heap.size, 0, none⟩) n n)) w') :
    wpList Try.prog ops Q (o :: rest) a w :=
  wpList_mk1 hgd l c t _ 24 _ ho ht info_ints rfl base L n hl hc hL (by omega) (by omega) hbase h

theorem Rows.ofNil {W : World} {B ob n : Nat} (h : W.ownsRow B 29 1 (.slice (some ⟨ob, 0, none⟩) n n) n (List.replicate n (.slice none 0 0))) : Rows W B n ob (List.replicate n (.slice none 0 0)) (List.replicate n []) := by
  have hg : ∀ j, j < n → (List.replicate n (Value.slice none 0 0)).getD j undef = .slice none 0 0 := fun j hj => by simp [List.getD, hj]
  have hg2 : ∀ j, j < n → (List.replicate n ([] : List Int)).getD j [] = [] := fun j hj => by simp [List.getD, hj]
  refine ⟨h, fun j hj => ?_, fun i j hi hj _ => ?_, fun j hj => ?_, by simp, by simp⟩
  · rw [hg j hj, hg2 j hj]; exact OI_nil _ _
  · rw [hg i hi]; intro k hk; cases hk
  · rw [hg j hj]; intro hk; cases hk

theorem Rows.is {w : World} {B n ob : Nat} {vals : List Value} {rows : List (List Int)} (h : Rows w B n ob vals rows) (hn : n ≤ 3000) (hl : ∀ j, j < n → (rows.getD j []).length ≤ 3000 ∧ ∀ x ∈ rows.getD j [], I64 x) : IsRows w (.slice (some ⟨ob, 0, none⟩) n n) rows := by
  have hlr := h.lr
  refine ⟨fun j => vals.getD j undef, ?_, fun j hj => (h.e j (by omega)).is (by have := (hl j (by omega)).1; unfold maxN; omega) (hl j (by omega)).2⟩
  rw [hlr]
  refine ownsRow_arr h.o (by unfold maxN; omega) _ fun j hj => ?_
  have : j < vals.length := by rw [h.lv]; exact hj
  rw [getD_lt _ _ _ this]; simp [this]

/-- The values of the first i rows, which lie in the blocks G. -/
def rowV (G : Nat → Nat) (n i : Nat) : List Value := (List.range n).map fun j => if j < i then .slice (some ⟨G j, 0, none⟩) n n else .slice none 0 0

theorem rowV_zero (G : Nat → Nat) (n : Nat) : rowV G n 0 = List.replicate n (.slice none 0 0) := by
  apply List.ext_getElem (by simp [rowV])
  intro j h1 h2
  simp [rowV]

def mrow (n : Nat) (f : Nat → Bool) : List Bool := (List.range n).map f

theorem mrow_len (n : Nat) (f : Nat → Bool) : (mrow n f).length = n := by simp [mrow]

theorem mrow_at (n : Nat) (f : Nat → Bool) (k : Nat) (h : k < n) : (mrow n f).getD k false = f k := by simp [mrow, List.getD, h]

def upM (M : Nat → Nat → Bool) (i j : Nat) (b : Bool) : Nat → Nat → Bool := fun a c => if a = i ∧ c = j then b else M a c

theorem mrow_set (n : Nat) (M : Nat → Nat → Bool) (i j : Nat) (b : Bool) : (mrow n (M i)).set j b = mrow n (upM M i j b i) := by
  apply List.ext_getElem (by simp [mrow])
  intro c h1 h2
  rw [List.getElem_set]
  simp only [mrow, List.getElem_map, List.getElem_range, upM]
  by_cases e : j = c
  · subst e; simp
  · rw [if_neg e, if_neg (fun h => e h.2.symm)]

theorem mrow_other (n : Nat) (M : Nat → Nat → Bool) (i j a : Nat) (b : Bool) (h : a ≠ i) : mrow n (upM M i j b a) = mrow n (M a) := by
  unfold mrow upM
  congr 1
  funext c
  rw [if_neg (fun e => h e.1)]

/-- The first i rows of the matrix M, in the blocks G, and the row of the rows in block gb. -/
structure Mx (w : World) (B gb n i : Nat) (G : Nat → Nat) (M : Nat → Nat → Bool) : Prop where
  o : w.ownsRow B 55 1 (.slice (some ⟨gb, 0, none⟩) n n) n (rowV G n i)
  e : ∀ j, j < i → OB w B (.slice (some ⟨G j, 0, none⟩) n n) (mrow n (M j))
  ne : ∀ j, j < i → G j ≠ gb
  inj : ∀ j k, j < i → k < i → G j = G k → j = k

section
variable {w w' : World} {B gb n i : Nat} {G : Nat → Nat} {M : Nat → Nat → Bool}
theorem OB_set_ne {w : World} {base g j : Nat} {v u : Value} {l : List Bool} (h : OB w base v l) (hne : v.ownBlock ≠ some g) : OB (w.setCell ⟨g, j, none⟩ u) base v l :=
  OB.grown h (grown_set w g j u) (.inr hne)
end

section
variable {w w' : World} {B gb n i : Nat} {G : Nat → Nat} {M : Nat → Nat → Bool}
theorem Mx.at (h : Mx w B gb n i G M) {j k : Nat} (hj : j < i) (hk : k < n) : w.cell? ⟨G j, k, none⟩ = some (.bool (M j k)) := by
  have hl : k < (mrow n (M j)).length := by rw [mrow_len]; exact hk
  have h1 := (h.e j hj).at' (mrow_len _ _).symm k hl
  rw [h1, ← getD_lt _ false _ hl, mrow_at _ _ _ hk]
end

section
variable {w w' : World} {B gb n i : Nat} {G : Nat → Nat} {M : Nat → Nat → Bool}
theorem Mx.ge (h : Mx w B gb n i G M) {j : Nat} (hj : j < i) : B ≤ G j := (h.e j hj).ge _ rfl
end

section
variable {w w' : World} {B gb n i : Nat} {G : Nat → Nat} {M : Nat → Nat → Bool}
theorem Mx.below (h : Mx w B gb n i G M) (hb : Below w.heap.size w w') : Mx w' B gb n i G M :=
  { h with o := World.ownsRow.kept h.o (below_grown hb) (.inr (by simp [Value.ownBlock])), e := fun j hj => (h.e j hj).below hb }
end

section
variable {w w' : World} {B gb n i : Nat} {G : Nat → Nat} {M : Nat → Nat → Bool}
theorem Mx.set (h : Mx w B gb n i G M) {j k : Nat} (hj : j < i) (b : Bool) : Mx (w.setCell ⟨G j, k, none⟩ (.bool b)) B gb n i G (upM M j k b) where
  o := ownsRow_set_ne h.o (fun e => h.ne j hj (by simpa [Value.ownBlock] using e.symm))
  e := fun a ha => by
    by_cases e : a = j
    · subst e
      rw [← mrow_set]
      exact (h.e a ha).set (mrow_len _ _).symm k b
    · rw [mrow_other _ _ _ _ _ _ e]
      exact OB_set_ne (h.e a ha) (fun x => e (h.inj a j ha hj (by simpa [Value.ownBlock] using x)))
  ne := h.ne
  inj := h.inj
end

theorem Mx.start {w : World} {B gb n : Nat} {G : Nat → Nat} {M : Nat → Nat → Bool} (h : w.ownsRow B 55 1 (.slice (some ⟨gb, 0, none⟩) n n) n (List.replicate n (.slice none 0 0))) : Mx w B gb n 0 G M :=
  ⟨by rw [rowV_zero]; exact h, fun j hj => absurd hj (by omega), fun j hj => absurd hj (by omega), fun j k hj => absurd hj (by omega)⟩

/-- A list made for the call. -/
def NewN (l : List Int) (w : World) (e : Ending) (w' : World) : Prop := ∃ v, e = .returned v ∧ IsInts w' v l ∧ Below w.heap.size w w'

theorem ivF_drop (l : List Int) (k j : Nat) : ivF (l.drop k) j = ivF l (k + j) := by simp [ivF, List.getD]

theorem ivF_take (l : List Int) {k j : Nat} (h : j < k) : ivF (l.take k) j = ivF l j := by simp [ivF, List.getD, h]

set_option maxHeartbeats 2000000 in
theorem Ints2_c (w : World) (va vb : Value) (a b : List Int) (ha : IsInts w va a) (hb : IsInts w vb b) :
    Calls Try.prog 25 #[va, vb] w (Quiet (.bool (decide (a = b))) w) := by
  obtain ⟨⟨aa, ca, ba, oa, rfl, ha⟩, har⟩ := ha
  obtain ⟨⟨ab, cb, bb, ob, rfl, hb⟩, hbr⟩ := hb
  have hna := ha.nb
  have hnb := hb.nb
  clear har hbr
  by_cases hlen : a.length = b.length
  case neg =>
    have hne : ((a.length : Int) != b.length) = true := by simp; omega
    have HF : Hid (decide (a = b) = false) := decide_eq_false (fun e => hlen (by rw [e]))
    clear hlen
    go_enter Try.func25, Try.ntmps25
    go_wp2
    go_ret
    exact ⟨ret_bool (by rw [HF.out]), 0, rfl⟩
  have hne : ((a.length : Int) != b.length) = false := by simp; omega
  have HLN := Lib.hid hlen
  clear hlen
  go_enter Try.func25, Try.ntmps25
  go_wp2
  go_loopw [5] (fun i wr => ∃ (k m : Nat), i = .int .i64 k ∧ k ≤ a.length ∧ Hid (a.take k = b.take k) ∧ wr = w.drewN m) (fun i _ => a.length - (intOf i).toNat)
  case atStart => exact ⟨0, 0, rfl, by omega, by show _ = _; simp, rfl⟩
  case round =>
    obtain ⟨k, m, rfl, hk, HE, rfl⟩ := hrel
    by_cases hlt : k < a.length
    · have hltb : k < b.length := by rw [← HLN.out]; exact hlt
      obtain rfl := ha.ad (by omega)
      obtain rfl := hb.ad (by omega)
      have c1 := ha.el k hlt
      have c2 := hb.el k hltb
      unfold ivF at c1 c2
      rw [getD_lt _ _ _ hlt] at c1
      rw [getD_lt _ _ _ hltb] at c2
      by_cases hq : a[k] = b[k]
      · have hq2 : (a[k] != b[k]) = false := by simp [hq]
        have HE2 : Hid (a.take (k + 1) = b.take (k + 1)) := take_succ_eq hlt hltb HE.out hq
        clear hq
        go_wp2
        go_quiet (fail)
        go_wp2
        go_roundw
        case rel => exact ⟨k + 1, _, by go_num, by omega, HE2.out, rfl⟩
        case measure => simp [intOf]; omega
      · have hq2 : (a[k] != b[k]) = true := by simp [hq]
        have HF : Hid (decide (a = b) = false) := decide_eq_false (fun e => hq (by subst e; rfl))
        clear hq
        go_wp2
        go_quiet (fail)
        go_wp2
        go_ret
        exact ⟨ret_bool (by rw [HF.out]), m + nq, by simp [World.drewN, Nat.add_assoc]⟩
    · obtain rfl : k = a.length := by omega
      have HF : Hid (decide (a = b) = true) := decide_eq_true (by
        have := HE.out
        rw [List.take_length, HLN.out, List.take_length] at this
        exact this)
      go_wp2
      go_ret
      exact ⟨ret_bool (by rw [HF.out]), m, rfl⟩

theorem IsInts.drop {w : World} {ao : Option Addr} {cap b off : Nat} {l : List Int} (h : ArrAt w ao cap b off l.length (ivF l)) (hr : ∀ x ∈ l, I64 x) (k : Nat) (hk : k < l.length) :
    IsInts w (.slice (some ⟨b, off + k, none⟩) (l.length - k) (cap - k)) (l.drop k) := by
  have := h.lc
  have := h.cm
  have := h.nm
  refine ⟨⟨_, _, b, off + k, by rw [List.length_drop], ⟨by rw [List.length_drop]; omega, by omega, by rw [List.length_drop]; omega, (fun e => by cases e), fun _ => rfl, fun j hj => ?_⟩⟩, fun x hx => hr x (List.mem_of_mem_drop hx)⟩
  rw [List.length_drop] at hj
  have e := h.el (k + j) (by omega)
  rw [ivF_drop, Nat.add_assoc]
  exact e

theorem IsInts.take {w : World} {ao : Option Addr} {cap b off : Nat} {l : List Int} (h : ArrAt w ao cap b off l.length (ivF l)) (hr : ∀ x ∈ l, I64 x) (k : Nat) (hk : k ≤ l.length) :
    IsInts w (.slice ao k cap) (l.take k) := by
  have := h.lc
  have hl : (l.take k).length = k := by rw [List.length_take]; omega
  refine ⟨⟨ao, cap, b, off, by rw [hl], ⟨by omega, h.cm, by have := h.nm; omega, h.nc, fun h0 => h.ad (by omega), fun j hj => ?_⟩⟩, fun x hx => hr x (List.mem_of_mem_take hx)⟩
  rw [hl] at hj
  rw [ivF_take _ hj]
  exact h.el j (by omega)

theorem nil_eq (w : World) : Sem.run Try.prog (binOp BinOp.eql 29 (.slice none 0 0) (.slice none 0 0)) w = .ok (.bool true) w := by rfl

theorem some_eq (w : World) (ad : Addr) (n c : Nat) : Sem.run Try.prog (binOp BinOp.eql 29 (.slice (some ad) n c) (.slice none 0 0)) w = .ok (.bool false) w := by rfl

set_option maxHeartbeats 2000000 in
theorem Clone_c (w : World) (vl : Value) (l : List Int) (hl : IsInts w vl l) (hlen : l.length ≤ 100000) :
    Calls Try.prog 34 #[vl] w (NewN l w) := by
  have hb0 : Below w.heap.size w (w.alloc (.cells #[] 3)) := bel_box _
  have hl2 := hl.below hb0
  have HR := Lib.hid hl.2
  have HO := Lib.hid (OI_empty0 w)
  obtain ⟨⟨ao, cap, b, off, rfl, hl⟩, -⟩ := hl
  cases ao with
  | none =>
    have hc := hl.nc rfl
    have h0 : l.length = 0 := by have := hl.lc; omega
    have hnil : l = [] := List.eq_nil_of_length_eq_zero h0
    subst hnil
    subst hc
    clear hl hl2 HO
    have hE := nil_eq w
    go_enter Try.func34, Try.ntmps34
    go_wp2
    go_ret
    exact ⟨_, rfl, ⟨⟨none, 0, 0, 0, rfl, ⟨Nat.le_refl _, by simp [maxLen], by simp [maxN], fun _ => rfl, fun h => absurd h (by simp), fun j hj => absurd hj (by simp)⟩⟩, by simp⟩, Below.refl _ _⟩
  | some ad =>
    have HL := Lib.hid hl2
    clear hl2
    have hE := some_eq w ad l.length cap
    go_enter Try.func34, Try.ntmps34
    go_wp2_with (at_builtin; refine app_ints rfl _ _ rfl w.heap.size _ _ [] l HO.out rfl HL.out rfl (by simp; omega) (by simp) ?_; intro v' w' hown' hg hmv; have HO2 := Lib.hid hown'; clear hown')
    go_ret
    exact ⟨_, rfl, HO2.out.is (by simp; unfold maxN; omega) HR.out, hb0.grown hg hb0.size HO.out.ge⟩

structure Au where
  letters : Int
  start : Int
  next : List (List Int)
  prio : List (List Int)
deriving DecidableEq

def IsAuto (w : World) (v : Value) (a : Au) : Prop := ∃ v2 v3, v = .agg #[.int .i64 a.letters, .int .i64 a.start, v2, v3] ∧ (I64 a.letters ∧ I64 a.start) ∧ IsRows w v2 a.next ∧ IsRows w v3 a.prio

theorem IsAuto.below {w wr : World} {v : Value} {a : Au} (h : IsAuto w v a) (hb : Below w.heap.size w wr) : IsAuto wr v a := by
  obtain ⟨v2, v3, rfl, h0, h2, h3⟩ := h
  exact ⟨v2, v3, rfl, h0, h2.below hb, h3.below hb⟩

/-- A move is in order; a row; an automaton. -/
def moveA (a : Au) (i k : Nat) : Bool := decide (0 ≤ (a.next.getD i []).getD k 0) && decide ((a.next.getD i []).getD k 0 < a.next.length) && decide (0 ≤ (a.prio.getD i []).getD k 0) && decide ((a.prio.getD i []).getD k 0 ≤ 20000)

def rowA (a : Au) (i : Nat) : Bool := decide (((a.next.getD i []).length : Int) = a.letters) && decide (((a.prio.getD i []).length : Int) = a.letters) && (List.range (a.next.getD i []).length).all (moveA a i)

def validA (a : Au) : Bool := (decide (1 ≤ a.letters) && decide (a.letters ≤ 64)) && (decide (1 ≤ a.next.length) && decide (a.next.length ≤ 3000)) && decide (a.prio.length = a.next.length) && (decide (0 ≤ a.start) && decide (a.start < a.next.length)) && (List.range a.next.length).all (rowA a)

theorem rg_all_succ (p : Nat → Bool) (k : Nat) : (List.range (k + 1)).all p = ((List.range k).all p && p k) := by
  rw [List.range_succ, List.all_append]; simp

theorem rg_all_false (p : Nat → Bool) (n k : Nat) (h : k < n) (hp : p k = false) : (List.range n).all p = false := by
  rw [List.all_eq_false]; exact ⟨k, List.mem_range.2 h, by simp [hp]⟩

theorem ret_false {b : Bool} (h : b = false) : Ending.returned (.bool false) = .returned (.bool b) := by rw [h]

theorem ret_true {b : Bool} (h : b = true) : Ending.returned (.bool true) = .returned (.bool b) := by rw [h]

theorem IsGame.dat {w : World} {g : Gm} {N : Nat} {a0 a1 a2 : Option Addr} {n0 n1 n2 k0 k1 k2 : Nat} (h : IsGame w (.agg #[.slice a0 n0 k0, .slice a1 n1 k1, .slice a2 n2 k2]) g) (l0 : g.owner.length = N) (l1 : g.prio.length = N) (l2 : g.succ.length = N) :
    N = n0 ∧ N = n1 ∧ N = n2 ∧ ∃ b0 o0 b1 o1 b2 o2, ∃ V : Nat → Value, (0 < N → a0 = some ⟨b0, o0, none⟩ ∧ a1 = some ⟨b1, o1, none⟩ ∧ a2 = some ⟨b2, o2, none⟩) ∧
      ∀ j, j < N → w.cell? ⟨b0, o0 + j, none⟩ = some (.int .i64 (g.owner.getD j 0)) ∧ w.cell? ⟨b1, o1 + j, none⟩ = some (.int .i64 (g.prio.getD j 0)) ∧ w.cell? ⟨b2, o2 + j, none⟩ = some (V j) ∧ IsInts w (V j) (g.succ.getD j []) := by
  obtain ⟨v0, v1, v2, hv, ⟨⟨ao0, cap0, b0, off0, rfl, g0⟩, _⟩, ⟨⟨ao1, cap1, b1, off1, rfl, g1⟩, _⟩, ⟨V, ⟨ao2, cap2, b2, off2, rfl, g2⟩, hr⟩⟩ := h
  injection hv with hv
  injection hv with hv
  simp only [List.cons.injEq, Value.slice.injEq, and_true] at hv
  obtain ⟨⟨rfl, rfl, rfl⟩, ⟨rfl, rfl, rfl⟩, rfl, rfl, rfl⟩ := hv
  exact ⟨l0.symm, l1.symm, l2.symm, b0, off0, b1, off1, b2, off2, V, fun hN => ⟨g0.ad (by omega), g1.ad (by omega), g2.ad (by omega)⟩, fun j hj => ⟨g0.el j (by omega), g1.el j (by omega), g2.el j (by omega), hr j (by omega)⟩⟩

theorem IsInts.shp {w : World} {v : Value} {l : List Int} (h : IsInts w v l) : ∃ a c, v = .slice a l.length c := by
  obtain ⟨⟨a, c, b, o, rfl, -⟩, -⟩ := h
  exact ⟨a, c, rfl⟩

theorem IsInts.dat {w : World} {a : Option Addr} {n c : Nat} {l : List Int} (h : IsInts w (.slice a n c) l) : ∃ b o, (0 < n → a = some ⟨b, o, none⟩) ∧ n ≤ 140737488351232 ∧ ∀ j, j < n → w.cell? ⟨b, o + j, none⟩ = some (.int .i64 (l.getD j 0)) := by
  obtain ⟨⟨a', c', b, o, hv, ha⟩, -⟩ := h
  injection hv with h1 h2 h3
  subst h1 h2 h3
  exact ⟨b, o, fun h => ha.ad h, ha.nb, fun j hj => ha.el j hj⟩

theorem IsBools.shape {w : World} {v : Value} {l : List Bool} (h : IsBools w v l) : ∃ a c, v = .slice a l.length c := by
  obtain ⟨a, c, b, o, rfl, -⟩ := h
  exact ⟨a, c, rfl⟩

theorem IsInts.shape {w : World} {v : Value} {l : List Int} (h : IsInts w v l) : ∃ a c, v = .slice a l.length c := by
  obtain ⟨⟨a, c, b, o, rfl, -⟩, -⟩ := h
  exact ⟨a, c, rfl⟩

theorem IsBools.data {w : World} {a : Option Addr} {n c : Nat} {l : List Bool} (h : IsBools w (.slice a n c) l) : ∃ b o, (0 < n → a = some ⟨b, o, none⟩) ∧ n ≤ 140737488351232 ∧ ∀ j, j < n → w.cell? ⟨b, o + j, none⟩ = some (.bool (l.getD j false)) := by
  obtain ⟨a', c', b, o, hv, ha⟩ := h
  injection hv with h1 h2 h3
  subst h1 h2 h3
  exact ⟨b, o, fun h => ha.ad h, ha.nb, fun j hj => ha.el j hj⟩

theorem IsInts.data {w : World} {a : Option Addr} {n c : Nat} {l : List Int} (h : IsInts w (.slice a n c) l) : ∃ b o, (0 < n → a = some ⟨b, o, none⟩) ∧ n ≤ 140737488351232 ∧ ∀ j, j < n → w.cell? ⟨b, o + j, none⟩ = some (.int .i64 (l.getD j 0)) := by
  obtain ⟨⟨a', c', b, o, hv, ha⟩, -⟩ := h
  injection hv with h1 h2 h3
  subst h1 h2 h3
  exact ⟨b, o, fun h => ha.ad h, ha.nb, fun j hj => ha.el j hj⟩

theorem lit_wf {a : Int} (h : I64 a) : (Lit.int .i64 a).wf = true := WalkArith.wf_i64 h

theorem idxI_pre {l e : List Int} {y : Int} (h : y ∈ l) : (l ++ e).idxOf y = l.idxOf y := by
  induction l with
  | nil => cases h
  | cons z l ih =>
    rw [List.cons_append, List.idxOf_cons, List.idxOf_cons]
    by_cases e : z = y
    · subst e; simp
    · have hb : (z == y) = false := by simpa using e
      rw [hb, ih ((List.mem_cons.1 h).resolve_left fun x => e x.symm)]

theorem idxI_new {l : List Int} {y : Int} (h : y ∉ l) : (l ++ [y]).idxOf y = l.length := by
  induction l with
  | nil => simp
  | cons z l ih =>
    have e : ¬ z = y := fun x => h (by rw [x]; exact List.mem_cons_self)
    have hb : (z == y) = false := by simpa using e
    rw [List.cons_append, List.idxOf_cons, hb, ih (fun x => h (List.mem_cons_of_mem _ x))]
    simp

theorem intKeyed : Keyed Try.prog 3 := int_keyed Try.underlying3

theorem intKey {q : Int} (h : I64 q) : keyOf Try.prog 3 (.int .i64 q) = some (.int .i64 q) := keyOf_int_mk Try.underlying3 (lit_wf h)

theorem intIsKey {q : Int} (h : I64 q) : Go.WideAt.IsKeyLit (.int .i64 q) := Keyed.key intKeyed (intKey h)

/-- Block b is the map that numbers the states of a list. -/
def NumI (w : World) (b : Nat) (l : List Int) : Prop := ∃ D : DataW Unit, w.ownsMap Try.prog 3 (plainElem Try.prog 3) b l.length D ∧ IsMap D ∧
  (∀ y, I64 y → Maps.has D (.int .i64 y) = decide (y ∈ l)) ∧ ∀ y, I64 y → y ∈ l → D.atKey (.int .i64 y) (.lit (.int .i64 0)) = .lit (.int .i64 (l.idxOf y))

/-- The same, with the number of its keys. -/
def NumL (w : World) (b : Nat) (l : List Int) : Prop := ∃ D : DataW Unit, w.ownsMap Try.prog 3 (plainElem Try.prog 3) b l.length D ∧ IsMap D ∧
  ((∀ y, I64 y → Maps.has D (.int .i64 y) = decide (y ∈ l)) ∧ ∀ y, I64 y → y ∈ l → D.atKey (.int .i64 y) (.lit (.int .i64 0)) = .lit (.int .i64 (l.idxOf y))) ∧ Maps.size D = l.length

theorem NumI.kept {w w' : World} {b : Nat} {l : List Int} {row : Option Nat} (h : NumI w b l) (hg : w.grownBy w' row) (hne : some b ≠ row) : NumI w' b l := by
  obtain ⟨D, h1, h2⟩ := h
  exact ⟨D, h1.kept hg hne, h2⟩

theorem NumI.lt {w : World} {b : Nat} {l : List Int} (h : NumI w b l) : b < w.heap.size := by
  obtain ⟨D, h1, -⟩ := h
  exact h1.lt

theorem NumI.below {w w' : World} {b : Nat} {l : List Int} (h : NumI w b l) (hb : Below w.heap.size w w') : NumI w' b l := h.kept (below_grown hb) (by simp)

theorem NumI.made (w : World) : NumI (w.alloc (.map #[] 0)) w.heap.size [] :=
  ⟨_, World.ownsMap_made w Try.prog 3 _, isMap_empty, fun y _ => by simp [Maps.has], fun y _ hy => absurd hy (by simp)⟩

theorem NumI.put {w' : World} {b : Nat} {l : List Int} {y : Int} {D : DataW Unit} (hm : IsMap D) (hy : I64 y) (hn : y ∉ l)
    (h1 : ∀ z, I64 z → Maps.has D (.int .i64 z) = decide (z ∈ l)) (h2 : ∀ z, I64 z → z ∈ l → D.atKey (.int .i64 z) (.lit (.int .i64 0)) = .lit (.int .i64 (l.idxOf z)))
    (h : w'.ownsMap Try.prog 3 (plainElem Try.prog 3) b (l.length + 1) (D.put (.int .i64 y) (.lit (.int .i64 l.length)))) : NumI w' b (l ++ [y]) := by
  refine ⟨_, by rw [List.length_append, List.length_singleton]; exact h, hm.put _ _, fun z hz => ?_, fun z hz hzl => ?_⟩
  · by_cases e : z = y
    · subst e
      rw [has_put_same hm (intIsKey hz)]; simp
    · rw [has_put_other (fun k => e (by injection k)), h1 z hz]
      simp [e]
  · by_cases e : z = y
    · subst e
      rw [idxI_new hn, atKey_put_same hm (intIsKey hz)]
    · have hzl' : z ∈ l := by
        rcases List.mem_append.1 hzl with h | h
        · exact h
        · exact absurd (List.mem_singleton.1 h) e
      rw [atKey_put_other (fun k => e (by injection k)), h2 z hz hzl', idxI_pre hzl']

theorem NumL.num {w : World} {b : Nat} {l : List Int} (h : NumL w b l) : NumI w b l := by
  obtain ⟨D, h1, h2, h3, -⟩ := h
  exact ⟨D, h1, h2, h3⟩

theorem NumL.kept {w w' : World} {b : Nat} {l : List Int} {row : Option Nat} (h : NumL w b l) (hg : w.grownBy w' row) (hne : some b ≠ row) : NumL w' b l := by
  obtain ⟨D, h1, h2⟩ := h
  exact ⟨D, h1.kept hg hne, h2⟩

theorem NumL.made (w : World) : NumL (w.alloc (.map #[] 0)) w.heap.size [] :=
  ⟨_, World.ownsMap_made w Try.prog 3 _, isMap_empty, ⟨fun y _ => by simp [Maps.has], fun y _ hy => absurd hy (by simp)⟩, rfl⟩

theorem one_set {w : World} {z : Nat} {t : TypeId} {c d : Value} (h : w.heap[z]? = some (.cells #[c] t (0, 0))) : (w.setCell ⟨z, 0, none⟩ d).heap[z]? = some (.cells #[d] t (0, 0)) := by
  have := heap_setCell_same w z 0 _ _ d h
  simpa using this

theorem Only.to_below {S : Nat → Prop} {a w w' : World} (hb : Below a.heap.size a w) (h : Only S w w') (hS : ∀ k, S k → a.heap.size ≤ k) : Below a.heap.size a w' := hb.trans (h.below _ hS hb.size)

/-- The slice of one number in a block of its own. -/
theorem IsInts.box1 {W : World} {h : Nat} {x : Int} (hh : W.heap[h]? = some (.cells #[.int .i64 x] 3 (0, 0))) (hx : I64 x) : IsInts W (.slice (some ⟨h, 0, none⟩) 1 1) [x] := by
  refine ⟨⟨_, _, h, 0, rfl, Nat.le_refl _, by simp [maxLen], by simp [maxN], (fun h => by cases h), fun _ => rfl, fun j hj => ?_⟩, fun y hy => by rw [List.mem_singleton.1 hy]; exact hx⟩
  obtain rfl : j = 0 := by simpa using hj
  exact cell_of_row _ _ 0 _ _ _ hh

/-- What the loop of newGraph writes to. -/
def HotN (nb ob : Nat) (va : Value) (B k : Nat) : Prop := k = nb ∨ va.ownBlock = some k ∨ B ≤ k ∨ k = ob

/-- What the loop of newGraph has made. -/
structure NG (W : World) (B nb ob n : Nat) (va : Value) (vals : List Value) (al : List Int) (nx : List (List Int)) : Prop where
  a : OI W B va al
  o : W.ownsRow 0 29 1 (.slice (some ⟨nb, 0, none⟩) n n) n vals
  e : ∀ j, j < n → ∀ W', Only (HotN nb ob va W.heap.size) W W' → IsInts W' (vals.getD j undef) (nx.getD j [])
  lx : nx.length = n
  lt : nb < B

theorem NG.lv {W : World} {B nb ob n : Nat} {va : Value} {vals : List Value} {al : List Int} {nx : List (List Int)} (h : NG W B nb ob n va vals al nx) : vals.length = n := by
  have := h.o.1
  simpa using this

theorem NG.below {W W1 : World} {B nb ob n : Nat} {va : Value} {vals : List Value} {al : List Int} {nx : List (List Int)} (h : NG W B nb ob n va vals al nx) (hb : Below W.heap.size W W1) : NG W1 B nb ob n va vals al nx := by
  refine ⟨h.a.below hb, World.ownsRow.kept h.o (below_grown hb) (.inr (by simp [Value.ownBlock])), fun j hj W' hW => h.e j hj W' ((Only.of_below hb).trans (hW.mono fun k _ hk => ?_)), h.lx, h.lt⟩
  rcases hk with hk | hk | hk | hk
  · exact .inl hk
  · exact .inr (.inl hk)
  · exact .inr (.inr (.inl (Nat.le_trans hb.size hk)))
  · exact .inr (.inr (.inr hk))

theorem NG.put {W : World} {B nb ob n : Nat} {va : Value} {vals : List Value} {al : List Int} {nx : List (List Int)} (h : NG W B nb ob n va vals al nx) {k : Nat} (hk : k < n) {u : Value} {r : List Int}
    (hu : ∀ W', Only (HotN nb ob va W.heap.size) W W' → IsInts W' u r) : NG (W.setCell ⟨nb, k, none⟩ u) B nb ob n va (vals.set k u) al (nx.set k r) := by
  have hs : Only (HotN nb ob va W.heap.size) W (W.setCell ⟨nb, k, none⟩ u) := Only.set nb k u (.inl rfl)
  have hs1 : Only (fun k => k = nb) W (W.setCell ⟨nb, k, none⟩ u) := Only.set nb k u rfl
  refine ⟨h.a.only hs1 fun b hb hk => ?_, (World.ownsRow.stored h.o k u).1, fun j hj W' hW => ?_, by simp [h.lx], h.lt⟩
  · have h1 := h.a.ge b hb
    have h3 := h.lt
    omega
  · have hW2 := hs.trans (hW.mono fun k _ hk => by simpa [HotN] using hk)
    by_cases e : k = j
    · subst e
      rw [getD_set_eq _ _ _ _ (by rw [h.lv]; exact hk), getD_set_eq _ _ _ _ (by rw [h.lx]; exact hk)]
      exact hu W' hW2
    · rw [getD_set_ne _ _ _ _ _ e, getD_set_ne _ _ _ _ _ e]
      exact h.e j hj W' hW2

/-- The head of a row. -/
theorem OI.cut {w : World} {B g n cap : Nat} {l : List Int} (h : OI w B (.slice (some ⟨g, 0, none⟩) n cap) l) {k : Nat} (hk : k ≤ l.length) : OI w B (.slice (some ⟨g, 0, none⟩) k cap) (l.take k) := by
  have hl : (l.take k).length = k := by rw [List.length_take]; omega
  unfold OI at h ⊢
  rw [hl]
  refine ⟨by simp; omega, ?_⟩
  rcases h.2 with ⟨h', _⟩ | ⟨g', cap', cur, hv, hb, hg, hnc, hcm, hcs, ht⟩
  · cases h'
  · refine .inr ⟨g', cap', cur, ?_, hb, hg, by omega, hcm, hcs, ?_⟩
    · injection hv with h1 h2 h3
      rw [h1, h3]
    · rw [Nat.mul_one] at ht ⊢
      rw [List.map_take, ← ht, List.take_take, Nat.min_eq_left hk]

def castL (l : List Nat) : List Int := l.map Int.ofNat

/-- The addresses of the search. -/
structure Va where
  zo : Nat
  mb : Nat
  zs : Nat
  zr : Nat
  zv : Nat
  za : Nat
  gb : Nat
  nb : Nat
  ob : Nat
  n : Nat
  V : Nat → Value

/-- What the search writes to. -/
def HotV (D : Va) (vs va : Value) (B k : Nat) : Prop := k = D.mb ∨ k = D.zs ∨ k = D.za ∨ k = D.ob ∨ vs.ownBlock = some k ∨ va.ownBlock = some k ∨ B ≤ k

/-- 'append' of numbers in a region that draws its order; it tells where the new row lies. -/
theorem wp_app_intsM {o : Oper} {a : Act} {K : Act → World → Prop} {Q : Exit → Act → World → Prop} (w : World) (s x : Operand)
    (ho : o.op = .call { callee := .builtin .append, args := #[s, x], argTypes := #[29, 29] })
    (base : Nat) (v v2 : Value) (l l2 : List Int) (hs : a.eval s = v) (hown : OI w base v l) (hx : a.eval x = v2) (hsrc : IsInts w v2 l2)
    (hn : l.length + l2.length ≤ 17592186043904) (hbase : base ≤ w.heap.size)
    (h : ∀ v' w', OI w' base v' (l ++ l2) → w.grownBy w' v.ownBlock → Moved w v v' → K (a.put o.dst v') w') : Oper.wp Try.prog o a w K Q := by
  obtain ⟨i, hi, hz0, hz1, hz2⟩ := info_parts info_int
  obtain ⟨⟨ao, cap, b, off, rfl, g⟩, -⟩ := hsrc
  have e : (List.range l2.length).map (ivF l2) = l2.map (Value.int .i64) := by
    apply List.ext_getElem (by simp)
    intro j h1 h2
    have : j < l2.length := by simpa using h1
    simp [ivF, this]
  cases ao with
  | none =>
    have hm0 : l2.length = 0 := by rcases Nat.eq_zero_or_pos l2.length with h0 | h0; exact h0; have := g.ad h0; cases this
    have hl2 := List.eq_nil_of_length_eq_zero hm0
    subst hl2
    obtain rfl := g.nc rfl
    have hrun := run_append_owned_none (P := Try.prog) (w := w) base 29 o.type 3 i 1 Try.underlying29 hi v l.length _ hown
    unfold Oper.wp execOp
    simp only [ho, resolve, invoke, builtin, Sem.run_bind, Sem.run_pure, Result.andThen_ok, List.map_toArray, List.map_cons, List.map_nil, hs, hx]
    simp only [List.length_nil, hrun]
    exact h _ _ (by simpa using hown) (grown_refl _ _) (Moved.refl _ _)
  | some ad =>
    obtain ⟨v', w', hr, h2, h3, h4, h5⟩ := run_append_own_at (P := Try.prog) (w := w) base 29 o.type 3 i _ 1 8 Try.underlying29 hi hz0 hz1 hz2 rfl (by decide) v l.length _ hown ad l2.length cap ((List.range l2.length).map (ivF l2)) (by simp) (by
      intro j u hj
      have hjm : j < l2.length := by
        rcases Nat.lt_or_ge j l2.length with h | h
        · exact h
        · simp [Nat.not_lt.2 h] at hj
      have hadd := g.ad (by omega)
      simp only [Option.some.injEq] at hadd
      subst hadd
      have : ivF l2 j = u := by simpa [hjm] using hj
      subst this
      have h2 := g.el j hjm
      unfold Addr.add
      split
      · subst j; exact h2
      · exact h2) (by
      intro u hu
      obtain ⟨j, _, rfl⟩ := List.mem_map.1 hu
      rfl) (by simp only [maxLen]; omega) (by omega) hbase
    unfold Oper.wp execOp
    simp only [ho, resolve, invoke, builtin, Sem.run_bind, Sem.run_pure, Result.andThen_ok, List.map_toArray, List.map_cons, List.map_nil, hs, hx, hr]
    refine h _ _ ?_ h3 fun q hq => ?_
    · unfold OI
      rw [e] at h2
      simpa using h2
    · rcases h5 with k | k
      · left; rw [← k]; exact hq
      · right; rw [k] at hq; injection hq with hq; omega

/-- The row of slices. -/
theorem IsRows.data {w : World} {v : Value} {ll : List (List Int)} (h : IsRows w v ll) : ∃ a c b o, ∃ V : Nat → Value, v = .slice a ll.length c ∧ (0 < ll.length → a = some ⟨b, o, none⟩) ∧ ll.length ≤ 140737488351232 ∧ ∀ j, j < ll.length → w.cell? ⟨b, o + j, none⟩ = some (V j) ∧ IsInts w (V j) (ll.getD j []) := by
  obtain ⟨V, ⟨a, c, b, o, rfl, ha⟩, hr⟩ := h
  exact ⟨a, c, b, o, V, rfl, fun h => ha.ad h, ha.nb, fun j hj => ⟨ha.el j hj, hr j hj⟩⟩

theorem two_set {w : World} {z : Nat} {t : TypeId} {a b c d : Value} (h : w.heap[z]? = some (.cells #[a, b] t (0, 0))) : ((w.setCell ⟨z, 0, none⟩ c).setCell ⟨z, 1, none⟩ d).heap[z]? = some (.cells #[c, d] t (0, 0)) := by
  have h1 := heap_setCell_same w z 0 _ _ c h
  have h2 := heap_setCell_same _ z 1 _ _ d h1
  simpa using h2

def RD1 (B0 gW cap f L : Nat) (st lp : List Int) (ix : Nat) (u : Value) (W : World) : Prop :=
  match ix with
  | 0 => u = .slice (some ⟨gW, 0, none⟩) L cap
  | 1 => u = .int .i64 (f : Int)
  | 2 => u = .slice (some ⟨gW, 0, none⟩) f cap
  | 3 => OI W B0 u st
  | 4 => u = .slice (some ⟨gW, 0, none⟩) L cap
  | 5 => u = .int .i64 (f : Int)
  | 6 => u = .slice (some ⟨gW, f, none⟩) (L - f) (cap - f)
  | 7 => OI W B0 u lp
  | 8 => ∃ v0 v1, u = .agg #[v0, v1] ∧ OI W B0 v0 st ∧ OI W B0 v1 lp
  | _ => True

theorem RD1.mono (B0 gW cap f L : Nat) (st lp : List Int) (ix : Nat) (v : Value) (W W' : World) (h : RD1 B0 gW cap f L st lp ix v W) (hb : Below W.heap.size W W') : RD1 B0 gW cap f L st lp ix v W' := by
  unfold RD1 at *
  split at h
  · exact h
  · exact h
  · exact h
  · exact h.below hb
  · exact h
  · exact h
  · exact h
  · exact h.below hb
  · obtain ⟨v0, v1, e, h1, h2⟩ := h
    exact ⟨v0, v1, e, h1.below hb, h2.below hb⟩
  · trivial

theorem bel_step {w4 W W3 : World} (h : Below w4.heap.size w4 W) (hb : Below W.heap.size W W3) : Below w4.heap.size w4 W3 := h.trans (hb.mono h.size)

theorem bel_step1 {w4 W W3 : World} (h : Below w4.heap.size w4 W) (hb : Below W.drew.heap.size W.drew W3) : Below w4.heap.size w4 W3 := (h.trans (Below.drew (Below.refl _ _))).trans (hb.mono h.size)

end Go.Proofs.Ytdkpdpcecjcmcaa
