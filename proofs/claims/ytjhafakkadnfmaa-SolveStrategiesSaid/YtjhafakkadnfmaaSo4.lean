/- The memory of a solver; what lift and keep do. -/
import Derived.Test.YtjhafakkadnfmaaC14
import Derived.Test.YtjhafakkadnfmaaSo3
import Derived.Laws.AppendOwnNone
import Derived.Shelf.Abstract
namespace Go.Proofs.Ytjhafakkadnfmaa
open Go.RowKit

/-- 'append' of a position to a set of the call's own. -/
theorem app_pos {ops : Array Oper} {rest : List Oper} {o : Oper} {a : Act} {Q : Exit → Act → World → Prop} {w : World} (hgd : o.guard = none) (s x : Operand) (b : Int)
    (ho : o.op = .call { callee := .builtin .append, args := #[s, x], argTypes := #[51, 51] })
    (base : Nat) (v : Value) (l : List Int) (hown : OI w base v l) (hs : a.eval s = v) (m : Nat) (hm : m = w.heap.size) (hx : a.eval x = .slice (some ⟨m, 0, none⟩) 1 1)
    (hn : l.length < 17592186043904) (hbase : base ≤ w.heap.size)
    (h : ∀ v' w', OI w' base v' (l ++ [b]) → w.grownBy w' v.ownBlock → Moved w v v' → wpList Try.prog ops Q rest (a.put o.dst v') w') :
    wpList Try.prog ops Q (o :: rest) a (w.alloc (.cells #[.int .i64 b] 3)) := by
  refine wpList_app1 hgd s x _ _ 8 _ _ ho Try.underlying51 info_int rfl base v l.length _ hs hown m hm hx rfl (by omega) (by decide) hbase fun v' w' h1 h2 h3 => h v' w' ?_ h2 h3
  unfold OI
  simpa using h1

/-- 'append' of a list to a set of the call's own. -/
theorem app_set {ops : Array Oper} {rest : List Oper} {o : Oper} {a : Act} {Q : Exit → Act → World → Prop} {w : World} (hgd : o.guard = none) (s x : Operand)
    (ho : o.op = .call { callee := .builtin .append, args := #[s, x], argTypes := #[51, 51] })
    (base : Nat) (v v2 : Value) (l l2 : List Int) (hown : OI w base v l) (hs : a.eval s = v) (hsrc : IsInts w v2 l2) (hx : a.eval x = v2)
    (hn : l.length + l2.length ≤ 17592186043904) (hbase : base ≤ w.heap.size)
    (h : ∀ v' w', OI w' base v' (l ++ l2) → w.grownBy w' v.ownBlock → Moved w v v' → wpList Try.prog ops Q rest (a.put o.dst v') w') :
    wpList Try.prog ops Q (o :: rest) a w := by
  obtain ⟨⟨ao, cap, b, off, rfl, hsrc⟩, -⟩ := hsrc
  refine wpList_appA hgd s x _ _ 8 _ ho Try.underlying51 info_int rfl base v l.length _ hs hown ao cap b off l2.length (ivF l2) hx hsrc (fun _ => rfl) (by omega) (by decide) hbase fun v' w' h1 h2 h3 => h v' w' ?_ h2 h3
  have e : (List.range l2.length).map (ivF l2) = l2.map (Value.int .i64) := by
    apply List.ext_getElem (by simp)
    intro j h1 h2
    have : j < l2.length := by simpa using h1
    simp [ivF, this]
  rw [e] at h1
  unfold OI
  simpa using h1

/-! The memory. -/

/-- Where a solver lies: its box, its lists alive, left and won, and its other fields. -/
structure Ad where
  sp : Nat
  ba : Nat
  bl : Nat
  bw : Nat
  v0 : Value
  v1 : Value
  v2 : Value
  vb : Value
  V : Nat → Value
/-- The blocks that are written. -/
def Ad.hot (D : Ad) (k : Nat) : Prop := k = D.ba ∨ k = D.bl ∨ k = D.bw

/-- What stays. -/
structure Fx (W : World) (D : Ad) (g : Gm) (n : Nat) (bf : List (List Int)) : Prop where
  box : W.heap[D.sp]? = some (.cells #[D.v0, D.v1, D.v2, D.vb, .slice (some ⟨D.ba, 0, none⟩) n n, .slice (some ⟨D.bl, 0, none⟩) n n, .slice (some ⟨D.bw, 0, none⟩) n n] 56 (0, 0))
  ow : IsInts W D.v0 g.owner
  pr : IsInts W D.v1 g.prio
  be : IsArr W D.vb n D.V
  br : ∀ j, j < n → IsInts W (D.V j) (bf.getD j [])

/-- A solver; what stays lies below B. -/
structure Sv (B : Nat) (w : World) (D : Ad) (g : Gm) (n : Nat) (bf : List (List Int)) (al : List Bool) (lf wn : List Int) : Prop where
  fx : ∀ W, Only (fun k => D.hot k ∨ B ≤ k) w W → Fx W D g n bf
  a : OB w 0 (.slice (some ⟨D.ba, 0, none⟩) n n) al
  l : OI w 0 (.slice (some ⟨D.bl, 0, none⟩) n n) lf
  w : OI w 0 (.slice (some ⟨D.bw, 0, none⟩) n n) wn
  la : al.length = n
  ll : lf.length = n
  lw : wn.length = n
  ne : D.ba ≠ D.bl ∧ D.ba ≠ D.bw ∧ D.bl ≠ D.bw
  hb : D.ba < B ∧ D.bl < B ∧ D.bw < B

/-- A list that stays: it lies below B, in no block that is written. -/
def Kp (B : Nat) (w : World) (D : Ad) (v : Value) (l : List Int) : Prop := ∀ W, Only (fun k => D.hot k ∨ B ≤ k) w W → IsInts W v l

section
variable {w W : World} {B B' : Nat} {D : Ad} {g : Gm} {n : Nat} {bf : List (List Int)} {al : List Bool} {lf wn : List Int} {v : Value} {l : List Int}
theorem Only.orB {S : Nat → Prop} (h : Only S w W) : Only (fun k => S k ∨ B ≤ k) w W := h.mono fun _ _ => .inl
theorem Kp.only (h : Kp B w D v l) (ho : Only (fun k => D.hot k ∨ B ≤ k) w W) : Kp B W D v l := fun W' h' => h W' (ho.trans h')
theorem Kp.is (h : Kp B w D v l) : IsInts w v l := h w (Only.refl _ _)
theorem Kp.up (h : Kp B w D v l) (hB : B ≤ B') : Kp B' w D v l := fun W' h' => h W' (h'.mono fun _ _ hk => hk.imp_right fun h => Nat.le_trans hB h)
theorem Sv.hot_lt (h : Sv B w D g n bf al lf wn) : ∀ k, D.hot k → k < B := by
  obtain ⟨h1, h2, h3⟩ := h.hb
  rintro k (rfl | rfl | rfl) <;> assumption
/-- Rows of the call's own stay. -/
theorem OI.kp {b : Nat} (h : OI w b v l) (hD : ∀ k, D.hot k → k < b) (hB : w.heap.size ≤ B) (hn : l.length ≤ maxN) (hi : ∀ x ∈ l, I64 x) : Kp B w D v l := fun W hW =>
  (h.only hW fun k hk hh => by
    have h1 := h.ge k hk
    have h2 := h.lt' k hk
    rcases hh with hh | hh
    · have := hD k hh; omega
    · omega).is hn hi
theorem Sv.up (h : Sv B w D g n bf al lf wn) (hB : B ≤ B') : Sv B' w D g n bf al lf wn :=
  { h with
    fx := fun W' h' => h.fx W' (h'.mono fun _ _ hk => hk.imp_right fun h => Nat.le_trans hB h)
    hb := by have := h.hb; omega }
/-- Behind writes to the lists. -/
theorem Sv.after {al' : List Bool} {lf' wn' : List Int} (h : Sv B w D g n bf al lf wn) (ho : Only (fun k => D.hot k ∨ B ≤ k) w W) (ha : OB W 0 (.slice (some ⟨D.ba, 0, none⟩) n n) al') (hl : OI W 0 (.slice (some ⟨D.bl, 0, none⟩) n n) lf') (hw : OI W 0 (.slice (some ⟨D.bw, 0, none⟩) n n) wn')
    (ka : al'.length = n) (kl : lf'.length = n) (kw : wn'.length = n) : Sv B W D g n bf al' lf' wn' :=
  ⟨fun W' h' => h.fx W' (ho.trans h'), ha, hl, hw, ka, kl, kw, h.ne, h.hb⟩
/-- Behind writes above B. -/
theorem Sv.above (h : Sv B w D g n bf al lf wn) (ho : Only (fun k => B ≤ k) w W) : Sv B W D g n bf al lf wn := by
  have hb := h.hb
  exact h.after (ho.mono fun _ _ hk => .inr hk) (OB.only h.a ho fun k hk e => by simp [Value.ownBlock] at hk; omega) (OI.only h.l ho fun k hk e => by simp [Value.ownBlock] at hk; omega) (OI.only h.w ho fun k hk e => by simp [Value.ownBlock] at hk; omega) h.la h.ll h.lw
theorem Sv.below (h : Sv B w D g n bf al lf wn) (hb : Below w.heap.size w W) : Sv B W D g n bf al lf wn := h.above (Only.of_below hb)
theorem Sv.toA {al' : List Bool} (h : Sv B w D g n bf al lf wn) (ho : Only (fun k => k = D.ba) w W) (ha : OB W 0 (.slice (some ⟨D.ba, 0, none⟩) n n) al') (hl : al'.length = n) : Sv B W D g n bf al' lf wn :=
  h.after (ho.mono fun _ _ e => .inl (.inl e)) ha (OI.only h.l ho (fun k hk e => by have := h.ne; simp [Value.ownBlock] at hk; omega)) (OI.only h.w ho (fun k hk e => by have := h.ne; simp [Value.ownBlock] at hk; omega)) hl h.ll h.lw
theorem Sv.toL {lf' : List Int} (h : Sv B w D g n bf al lf wn) (ho : Only (fun k => k = D.bl) w W) (ha : OI W 0 (.slice (some ⟨D.bl, 0, none⟩) n n) lf') (hl : lf'.length = n) : Sv B W D g n bf al lf' wn :=
  h.after (ho.mono fun _ _ e => .inl (.inr (.inl e))) (OB.only h.a ho (fun k hk e => by have := h.ne; simp [Value.ownBlock] at hk; omega)) ha (OI.only h.w ho (fun k hk e => by have := h.ne; simp [Value.ownBlock] at hk; omega)) h.la hl h.lw
theorem Sv.toW {wn' : List Int} (h : Sv B w D g n bf al lf wn) (ho : Only (fun k => k = D.bw) w W) (ha : OI W 0 (.slice (some ⟨D.bw, 0, none⟩) n n) wn') (hl : wn'.length = n) : Sv B W D g n bf al lf wn' :=
  h.after (ho.mono fun _ _ e => .inl (.inr (.inr e))) (OB.only h.a ho (fun k hk e => by have := h.ne; simp [Value.ownBlock] at hk; omega)) (OI.only h.l ho (fun k hk e => by have := h.ne; simp [Value.ownBlock] at hk; omega)) ha h.la h.ll hl
/-- Memory made since does not count. -/
theorem Only.grow {S : Nat → Prop} {w w1 w2 : World} {r : Option Nat} (h : Only S w w1) (hg : w1.grownBy w2 r) (hr : ∀ k, r = some k → w.heap.size ≤ k) : Only S w w2 :=
  ⟨hg.os.trans h.os, hg.tape.trans h.tape, hg.output.trans h.output, Nat.le_trans h.size hg.size, fun k hk hs => (hg.block k (Nat.lt_of_lt_of_le hk h.size) (fun e => by have := hr k e.symm; omega)).trans (h.block k hk hs)⟩
theorem Only.one {k0 : Nat} (h : Only (fun k => k = k0) w W) (hk : D.hot k0) : Only D.hot w W := h.mono fun _ _ e => e ▸ hk
theorem Sv.cellA (h : Sv B w D g n bf al lf wn) {v : Nat} (hv : v < n) : w.cell? ⟨D.ba, v, none⟩ = some (.bool (al.getD v false)) ∧ w.frozen? ⟨D.ba, v, none⟩ = false := by
  have := h.la
  refine ⟨?_, h.a.fz h.la.symm v⟩
  rw [h.a.at' h.la.symm v (by omega), getD_lt _ _ _ (by omega)]
theorem Sv.cellL (h : Sv B w D g n bf al lf wn) {v : Nat} (hv : v < n) : w.cell? ⟨D.bl, v, none⟩ = some (.int .i64 (lf.getD v 0)) ∧ w.frozen? ⟨D.bl, v, none⟩ = false := by
  have := h.ll
  refine ⟨?_, h.l.fz h.ll.symm v⟩
  rw [h.l.at' h.ll.symm v (by omega), getD_lt _ _ _ (by omega)]
theorem Sv.cellW (h : Sv B w D g n bf al lf wn) {v : Nat} (hv : v < n) : w.cell? ⟨D.bw, v, none⟩ = some (.int .i64 (wn.getD v 0)) ∧ w.frozen? ⟨D.bw, v, none⟩ = false := by
  have := h.lw
  refine ⟨?_, h.w.fz h.lw.symm v⟩
  rw [h.w.at' h.lw.symm v (by omega), getD_lt _ _ _ (by omega)]
theorem Sv.setA (h : Sv B w D g n bf al lf wn) (v : Nat) (b : Bool) : Sv B (w.setCell ⟨D.ba, v, none⟩ (.bool b)) D g n bf (al.set v b) lf wn :=
  h.toA (Only.set _ _ _ rfl) (h.a.set h.la.symm v b) (by rw [List.length_set]; exact h.la)
theorem Sv.setL (h : Sv B w D g n bf al lf wn) (v : Nat) (b : Int) : Sv B (w.setCell ⟨D.bl, v, none⟩ (.int .i64 b)) D g n bf al (lf.set v b) wn :=
  h.toL (Only.set _ _ _ rfl) (h.l.set h.ll.symm v b) (by rw [List.length_set]; exact h.ll)
/-- The box's fields. -/
theorem Sv.field (h : Sv B w D g n bf al lf wn) (k : Nat) {u : Value} (hu : (#[D.v0, D.v1, D.v2, D.vb, .slice (some ⟨D.ba, 0, none⟩) n n, .slice (some ⟨D.bl, 0, none⟩) n n, .slice (some ⟨D.bw, 0, none⟩) n n] : Array Value)[k]? = some u) : w.cell? ⟨D.sp, k, none⟩ = some u :=
  (cell_of_row _ _ k _ _ _ (h.fx w (Only.refl _ _)).box).trans hu
end

/-! lift. -/

def liftB (l : List Bool) (part : List Int) (b : Bool) : List Bool := part.foldl (fun a v => a.set v.toNat b) l
def liftI (l : List Int) (part : List Int) (x : Int) : List Int := part.foldl (fun a v => a.set v.toNat x) l
theorem liftB_snoc (l : List Bool) (p : List Int) (v : Int) (b : Bool) : liftB l (p ++ [v]) b = (liftB l p b).set v.toNat b := by simp [liftB]
theorem liftI_snoc (l : List Int) (p : List Int) (v : Int) (x : Int) : liftI l (p ++ [v]) x = (liftI l p x).set v.toNat x := by simp [liftI]
theorem liftB_len (l : List Bool) (p : List Int) (b : Bool) : (liftB l p b).length = l.length := by
  induction p generalizing l with
  | nil => rfl
  | cons v p ih => show (liftB (l.set v.toNat b) p b).length = _; rw [ih, List.length_set]
theorem liftI_len (l : List Int) (p : List Int) (x : Int) : (liftI l p x).length = l.length := by
  induction p generalizing l with
  | nil => rfl
  | cons v p ih => show (liftI (l.set v.toNat x) p x).length = _; rw [ih, List.length_set]

set_option maxHeartbeats 1000000 in
theorem liftB_c (w : World) (gi n : Nat) (vp : Value) (al : List Bool) (part : List Int) (b : Bool) (ha : OB w 0 (.slice (some ⟨gi, 0, none⟩) n n) al) (hl : al.length = n) (hp : ∀ W, Only (fun k => k = gi) w W → IsInts W vp part) (hr : ∀ x ∈ part, ∃ v : Nat, x = v ∧ v < n) :
    Calls Try.prog 57 #[.slice (some ⟨gi, 0, none⟩) n n, vp, .bool b] w fun e w' => e = .returned (.tuple #[]) ∧ OB w' 0 (.slice (some ⟨gi, 0, none⟩) n n) (liftB al part b) ∧ Only (fun k => k = gi) w w' := by
  have h0 := hp w (Only.refl _ _)
  obtain ⟨⟨ao, cap, bp, op, rfl, g0⟩, -⟩ := h0
  have hn := g0.nb
  have HP := Lib.hid (fun W h => hp W h)
  have HA := Lib.hid ha
  have HR := Lib.hid (fun k (hk : k < part.length) => hr part[k] (List.getElem_mem hk))
  have HAd := Lib.hid g0.ad
  have HL := Lib.hid hl
  clear g0 ha hr hl hp
  go_enter Try.func57, Try.ntmps57
  go_wp2
  go_loopg [7, 10] part.length (fun gh _ i wr => ∃ k : Nat, gh = part.length - k ∧ i = .int .i64 k ∧ k ≤ part.length ∧ Hid (OB wr 0 (.slice (some ⟨gi, 0, none⟩) n n) (liftB al (part.take k) b)) ∧ Hid (Only (fun k => k = gi) w wr))
  case atStart => exact ⟨0, by omega, rfl, by omega, HA, Only.refl _ _⟩
  case round =>
    obtain ⟨k, rfl, rfl, hk, HO, HW⟩ := hrel
    by_cases hlt : k < part.length
    · obtain ⟨⟨ao', cap', bp', op', hv, g1⟩, -⟩ := HP.out wr HW.out
      obtain ⟨rfl, rfl⟩ : ao = ao' ∧ cap = cap' := by simpa using hv
      obtain rfl := g1.ad (by omega)
      have e1 := g1.el k hlt
      unfold ivF at e1
      rw [getD_lt _ _ _ hlt] at e1
      obtain ⟨v, hv, hvn⟩ := HR.out k hlt
      have HLen : Hid ((liftB al (part.take k) b).length = n) := by show _ = _; rw [liftB_len, HL.out]
      have e2 := HO.out.at' HLen.out.symm v (by rw [HLen.out]; exact hvn)
      have f2 := HO.out.fz HLen.out.symm v
      have HO2 : Hid (OB (wr.setCell ⟨gi, v, none⟩ (.bool b)) 0 (.slice (some ⟨gi, 0, none⟩) n n) (liftB al (part.take (k + 1)) b)) := by
        show OB _ _ _ _
        rw [List.take_succ_eq_append_getElem hlt, liftB_snoc, hv, Int.toNat_natCast]
        exact HO.out.set HLen.out.symm v b
      have HW2 : Hid (Only (fun k => k = gi) w (wr.setCell ⟨gi, v, none⟩ (.bool b))) := HW.out.trans (Only.set _ _ _ rfl)
      rw [hv] at e1
      clear hv g1
      go_wp2
      go_roundg (part.length - (k + 1))
      case rel => exact ⟨k + 1, rfl, by go_num, by omega, HO2, HW2⟩
      case measure => omega
    · obtain rfl : k = part.length := by omega
      go_wp2
      go_end0
      exact ⟨rfl, by have := HO.out; rwa [List.take_length] at this, HW.out⟩

set_option maxHeartbeats 1000000 in
theorem liftI_c (w : World) (gi n : Nat) (vp : Value) (al : List Int) (part : List Int) (b : Int) (ha : OI w 0 (.slice (some ⟨gi, 0, none⟩) n n) al) (hl : al.length = n) (hp : ∀ W, Only (fun k => k = gi) w W → IsInts W vp part) (hr : ∀ x ∈ part, ∃ v : Nat, x = v ∧ v < n) :
    Calls Try.prog 49 #[.slice (some ⟨gi, 0, none⟩) n n, vp, .int .i64 b] w fun e w' => e = .returned (.tuple #[]) ∧ OI w' 0 (.slice (some ⟨gi, 0, none⟩) n n) (liftI al part b) ∧ Only (fun k => k = gi) w w' := by
  have h0 := hp w (Only.refl _ _)
  obtain ⟨⟨ao, cap, bp, op, rfl, g0⟩, -⟩ := h0
  have hn := g0.nb
  have HP := Lib.hid (fun W h => hp W h)
  have HA := Lib.hid ha
  have HR := Lib.hid (fun k (hk : k < part.length) => hr part[k] (List.getElem_mem hk))
  have HAd := Lib.hid g0.ad
  have HL := Lib.hid hl
  clear g0 ha hr hl hp
  go_enter Try.func49, Try.ntmps49
  go_wp2
  go_loopg [7, 10] part.length (fun gh _ i wr => ∃ k : Nat, gh = part.length - k ∧ i = .int .i64 k ∧ k ≤ part.length ∧ Hid (OI wr 0 (.slice (some ⟨gi, 0, none⟩) n n) (liftI al (part.take k) b)) ∧ Hid (Only (fun k => k = gi) w wr))
  case atStart => exact ⟨0, by omega, rfl, by omega, HA, Only.refl _ _⟩
  case round =>
    obtain ⟨k, rfl, rfl, hk, HO, HW⟩ := hrel
    by_cases hlt : k < part.length
    · obtain ⟨⟨ao', cap', bp', op', hv, g1⟩, -⟩ := HP.out wr HW.out
      obtain ⟨rfl, rfl⟩ : ao = ao' ∧ cap = cap' := by simpa using hv
      obtain rfl := g1.ad (by omega)
      have e1 := g1.el k hlt
      unfold ivF at e1
      rw [getD_lt _ _ _ hlt] at e1
      obtain ⟨v, hv, hvn⟩ := HR.out k hlt
      have HLen : Hid ((liftI al (part.take k) b).length = n) := by show _ = _; rw [liftI_len, HL.out]
      have e2 := HO.out.at' HLen.out.symm v (by rw [HLen.out]; exact hvn)
      have f2 := HO.out.fz HLen.out.symm v
      have HO2 : Hid (OI (wr.setCell ⟨gi, v, none⟩ (.int .i64 b)) 0 (.slice (some ⟨gi, 0, none⟩) n n) (liftI al (part.take (k + 1)) b)) := by
        show OI _ _ _ _
        rw [List.take_succ_eq_append_getElem hlt, liftI_snoc, hv, Int.toNat_natCast]
        exact HO.out.set HLen.out.symm v b
      have HW2 : Hid (Only (fun k => k = gi) w (wr.setCell ⟨gi, v, none⟩ (.int .i64 b))) := HW.out.trans (Only.set _ _ _ rfl)
      rw [hv] at e1
      clear hv g1
      go_wp2
      go_roundg (part.length - (k + 1))
      case rel => exact ⟨k + 1, rfl, by go_num, by omega, HO2, HW2⟩
      case measure => omega
    · obtain rfl : k = part.length := by omega
      go_wp2
      go_end0
      exact ⟨rfl, by have := HO.out; rwa [List.take_length] at this, HW.out⟩

/-! keep. -/

/-- A set made for the call. -/
def NewSet (l : List Int) (w : World) (e : Ending) (w' : World) : Prop := ∃ v, e = .returned v ∧ OI w' w.heap.size v l ∧ Below w.heap.size w w'

set_option maxHeartbeats 1000000 in
theorem keep_c (w : World) (vp : Value) (part : List Int) (fn : Nat) (lb : Array Value) (f : Int → Bool) (hp : IsInts w vp part) (hlen : part.length ≤ 100000) (hen : Enters Try.prog fn)
    (hf : ∀ W, Below w.heap.size w W → ∀ x ∈ part, Calls Try.prog fn (#[.int .i64 x] ++ lb) W (Calm (.bool (f x)) W)) :
    Calls Try.prog 47 #[vp, .func (.func fn) #[] lb] w (NewSet (part.filter f) w) := by
  obtain ⟨⟨ao, cap, bp, op, rfl, g0⟩, -⟩ := hp
  have hn := g0.nb
  have HG := Lib.hid g0.el
  have HAd := Lib.hid g0.ad
  have HF := Lib.hid (fun W (hW : Below w.heap.size w W) k (hk : k < part.length) => hf W hW part[k] (List.getElem_mem hk))
  clear g0 hf
  go_enter Try.func47, Try.ntmps47
  go_wp2
  go_loopg [5, 7, 10] part.length (fun gh s _ i wr => ∃ k : Nat, gh = part.length - k ∧ i = .int .i64 k ∧ k ≤ part.length ∧ Hid (OI wr w.heap.size s ((part.take k).filter f)) ∧ Below w.heap.size w wr)
  case atStart => exact ⟨0, by omega, rfl, by omega, OI_nil _ _, Below.refl _ _⟩
  case round =>
    obtain ⟨k, rfl, rfl, hk, HO, hW⟩ := hrel
    by_cases hlt : k < part.length
    · obtain rfl := HAd.out (by omega)
      have e1 := cellB hW (HG.out k hlt)
      unfold ivF at e1
      rw [getD_lt _ _ _ hlt] at e1
      have HFk := Lib.hid (HF.out wr hW k hlt)
      have HS : Hid ((part.take (k + 1)).filter f = (part.take k).filter f ++ if f part[k] then [part[k]] else []) := by
        show _ = _
        rw [List.take_succ_eq_append_getElem hlt, List.filter_append]
        congr 1
        cases h : f part[k] <;> simp [h]
      have hlf : ((part.take k).filter f).length ≤ 100000 := Nat.le_trans (List.length_filter_le _ _) (by rw [List.length_take]; omega)
      generalize part[k] = x at *
      generalize (part.take k).filter f = lk at *
      have hE := hen (#[.int .i64 x] ++ lb) wr
      go_wp2_with fail
      clear hE
      refine HFk.out.mono ?_
      rintro e w2 ⟨rfl, hb2⟩
      have hW2 := hW.trans (hb2.mono hW.size)
      have HO2 := Lib.hid (HO.out.below hb2)
      have hz := hW2.size
      clear HO hW hb2 HFk
      cases hfx : f x with
      | true =>
        rw [hfx] at HS
        go_wp2_with (at_builtin; refine app_pos rfl _ _ x rfl w.heap.size _ _ HO2.out rfl _ (by simp) rfl (by omega) hz ?_; intro v' w' hown' hg hmv; have HO4 := Lib.hid hown'; have HC4 := Lib.hid (hW2.grown hg hz (fun g h => HO2.out.ge g h)); clear hown' hg hmv)
        go_roundg (part.length - (k + 1))
        case rel => exact ⟨k + 1, rfl, by go_num, by omega, by rw [HS.out]; exact HO4, HC4.out⟩
        case measure => omega
      | false =>
        rw [hfx] at HS
        go_wp2
        go_roundg (part.length - (k + 1))
        case rel => exact ⟨k + 1, rfl, by go_num, by omega, by rw [HS.out]; simpa using HO2, hW2⟩
        case measure => omega
    · obtain rfl : k = part.length := by omega
      go_wp2
      go_ret
      exact ⟨_, rfl, by have := HO.out; rwa [List.take_length] at this, hW⟩

end Go.Proofs.Ytjhafakkadnfmaa
