/- What split does first: its moves get the set's number, the parts and indices of their states are set to 0. -/
import Derived.StillTailTactics
import Derived.Test.YtdkpdpcecjcmcaaQRd9
namespace Go.Proofs.Ytdkpdpcecjcmcaa
open Go.RowKit

def R49_5 (fb ab n zb s x t : Nat) (ix : Nat) (u : Value) : Prop :=
  match ix with
  | 0 => u = .pointer (some ⟨fb, 0, none⟩)
  | 1 => u = .pointer (some ⟨fb, 0, none⟩)
  | 2 => u = .pointer (some ⟨fb, 5, none⟩)
  | 3 => u = .slice (some ⟨ab, 0, none⟩) n n
  | 4 => u = .pointer (some ⟨zb, 0, none⟩)
  | 5 => u = .int .i64 (s : Int)
  | 6 => u = .pointer (some ⟨fb, 0, none⟩)
  | 7 => u = .pointer (some ⟨fb, 0, none⟩)
  | 8 => u = .pointer (some ⟨fb, 5, none⟩)
  | 9 => u = .slice (some ⟨ab, 0, none⟩) n n
  | 10 => u = .pointer (some ⟨fb, 0, none⟩)
  | 11 => u = .agg #[.int .i64 (s : Int), .int .i64 (x : Int)]
  | 12 => u = .int .i64 (t : Int)
  | 13 => u = .pointer (some ⟨ab, s, none⟩)
  | 14 => True
  | 15 => u = .pointer (some ⟨ab, t, none⟩)
  | 16 => True
  | _ => True

def R49_6 (fb ab n zb s x t : Nat) (ix : Nat) (u : Value) : Prop :=
  match ix with
  | 0 => u = .pointer (some ⟨fb, 0, none⟩)
  | 1 => u = .pointer (some ⟨fb, 0, none⟩)
  | 2 => u = .pointer (some ⟨fb, 6, none⟩)
  | 3 => u = .slice (some ⟨ab, 0, none⟩) n n
  | 4 => u = .pointer (some ⟨zb, 0, none⟩)
  | 5 => u = .int .i64 (s : Int)
  | 6 => u = .pointer (some ⟨fb, 0, none⟩)
  | 7 => u = .pointer (some ⟨fb, 0, none⟩)
  | 8 => u = .pointer (some ⟨fb, 6, none⟩)
  | 9 => u = .slice (some ⟨ab, 0, none⟩) n n
  | 10 => u = .pointer (some ⟨fb, 0, none⟩)
  | 11 => u = .agg #[.int .i64 (s : Int), .int .i64 (x : Int)]
  | 12 => u = .int .i64 (t : Int)
  | 13 => u = .pointer (some ⟨ab, s, none⟩)
  | 14 => True
  | 15 => u = .pointer (some ⟨ab, t, none⟩)
  | 16 => True
  | _ => True

def R49_23 (gC nc cC j : Nat) (aj : Option Addr) (nl cj s x ix : Nat) (u : Value) : Prop :=
  match ix with
  | 0 => u = .slice (some ⟨gC, 0, none⟩) nc cC
  | 1 => u = .int .i64 (j : Int)
  | 2 => u = .slice (some ⟨gC, 0, none⟩) nc cC
  | 3 => u = .int .i64 (j : Int)
  | 4 => u = .pointer (some ⟨gC, j, none⟩)
  | 5 => u = .slice aj nl cj
  | 6 => u = .agg #[.int .i64 (s : Int), .int .i64 (x : Int)]
  | 9 => u = .pointer (some ⟨gC, j, none⟩)
  | _ => True

def R49_16 (fb ab n _zb s x t ft fs : Nat) (b : Bool) (ix : Nat) (u : Value) : Prop :=
  match ix with
  | 0 => u = .pointer (some ⟨fb, 0, none⟩)
  | 1 => u = .pointer (some ⟨fb, 0, none⟩)
  | 2 => u = .pointer (some ⟨fb, 5, none⟩)
  | 3 => u = .slice (some ⟨ab, 0, none⟩) n n
  | 4 => u = .pointer (some ⟨fb, 0, none⟩)
  | 5 => u = .agg #[.int .i64 (s : Int), .int .i64 (x : Int)]
  | 6 => u = .int .i64 (t : Int)
  | 7 => u = .pointer (some ⟨ab, t, none⟩)
  | 8 => u = .int .i64 (ft : Int)
  | 9 => u = .int .i64 (fs : Int)
  | 10 => u = .bool b
  | _ => True

/-- What split's first loop leaves. -/
structure Sp1 (A : Fa) (w w' : World) (nx : List (List Int)) (num : Nat) (ls : List Mv) (st : Nat → Nat → Nat) (F : Ar → Nat → Nat) : Prop where
  m : FlM A w' st F
  s : ∀ i j, i < A.n → j < A.k → (st i j = num ↔ (i, j) ∈ ls) ∧ st i j ≤ num
  z : ∀ m ∈ ls, (F .prt m.1 = 0 ∧ F .idx m.1 = 0) ∧ F .prt (tgN nx m) = 0 ∧ F .idx (tgN nx m) = 0
  o : Only (fun q => A.hotA q ∨ A.hotG q ∨ w.heap.size ≤ q) w w'

def SplitOut (A : Fa) (w : World) (nx : List (List Int)) (num : Nat) (l : List Mv) (e : Ending) (w' : World) : Prop :=
  ∃ (vc vo : Value) (comps : List (List Mv)) (os : List Mv) (st' : Nat → Nat → Nat) (F' : Ar → Nat → Nat), e = .returned (.tuple #[vc, vo]) ∧ FlM A w' st' F' ∧ (∀ i j, i < A.n → j < A.k → st' i j ≤ num) ∧ Only (fun q => A.hotA q ∨ A.hotG q ∨ w.heap.size ≤ q) w w' ∧ Grp (tgN nx) l comps os ∧
    ∃ (aC : Option Addr) (cC gC : Nat) (V : Nat → Value), vc = .slice aC comps.length cC ∧ (0 < comps.length → aC = some ⟨gC, 0, none⟩) ∧ comps.length ≤ 200000 ∧
      ∀ W', Only (fun q => q < w.heap.size ∨ w'.heap.size ≤ q) w' W' → (∀ j, j < comps.length → W'.cell? ⟨gC, j, none⟩ = some (V j) ∧ IsMvs W' (V j) (comps.getD j [])) ∧ IsMvs W' vo os
theorem CB.cells {w : World} {B mb gC cC : Nat} {aC : Option Addr} {vo : Value} {vals : List Value} {comps : List (List Mv)} {os : List Mv} {ks : List Nat} (h : CB w B (.slice aC comps.length cC) vals comps vo os mb ks) (hg : 0 < comps.length → aC = some ⟨gC, 0, none⟩) (hn : os.length ≤ 200000 ∧ ∀ j, j < comps.length → (comps.getD j []).length ≤ 200000) :
    (∀ j, j < comps.length → w.cell? ⟨gC, j, none⟩ = some (vals.getD j undef) ∧ IsMvs w (vals.getD j undef) (comps.getD j [])) ∧ IsMvs w vo os := by
  refine ⟨fun j hj => ⟨?_, (h.e j hj).is (by have := hn.2 j hj; unfold maxN; omega)⟩, h.o.is (by unfold maxN; omega)⟩
  have hl : j < vals.length := by rw [h.vl]; exact hj
  have hr := h.r
  rw [hg (by omega)] at hr
  rw [World.ownsRow.cellAt hr j (by omega)]
  simp [List.getD, hl]

set_option maxRecDepth 100000 in
set_option maxHeartbeats 8000000 in
theorem split_c (A : Fa) (w0 w : World) (nx : List (List Int)) (st : Nat → Nat → Nat) (F : Ar → Nat → Nat) (num : Nat) (vm : Value) (l : List Mv) (hA : A.Ok w0.heap.size) (hb : Below w0.heap.size w0 w) (hv : IsRows w0 A.vN nx) (hx : NX A.n A.k nx) (hM : FlM A w st F)
    (hl : ∀ W, Only (fun q => A.hotA q ∨ A.hotG q ∨ w.heap.size ≤ q) w W → IsMvs W vm l) (hr : ∀ m ∈ l, m.1 < A.n ∧ m.2 < A.k) (hs : ∀ i j, i < A.n → j < A.k → st i j < num) (hll : l.length ≤ 200000) (hn2 : A.n ≤ 2000) :
    Calls Try.prog 49 #[.pointer (some ⟨A.fb, 0, none⟩), .int .i64 (num : Int), vm] w (SplitOut A w nx num l) := by
  obtain ⟨aL, cL, rfl⟩ := (hl w (Only.refl _ _)).shp
  have HA := Lib.hid hA
  have HX := Lib.hid hx
  have HL := Lib.hid hl
  have HR := Lib.hid hr
  have HSt := Lib.hid hs
  have HV := Lib.hid hv
  have hmx : Try.prog.follows .mixedOrders = true := by kernel_rfl
  have hln : l.length ≤ 140737488351232 := by
    obtain ⟨_, _, _, h, _⟩ := (hl w (Only.refl _ _)).dat
    exact h
  have HP0 : Hid (Sp1 A w w nx num [] st F) := ⟨hM, fun i j hi hj => ⟨⟨fun e => by have := hs i j hi hj; omega, fun h => absurd h (by simp)⟩, Nat.le_of_lt (hs i j hi hj)⟩, fun m hm => absurd hm (by simp), Only.refl _ _⟩
  have HBW : Hid (∀ W, Only (fun q => A.hotA q ∨ A.hotG q ∨ w.heap.size ≤ q) w W → Below w0.heap.size w0 W) := fun W hW => Only.to_below hb hW (by
    rintro q (⟨x, e⟩ | ⟨j, hj, e⟩ | e)
    · rw [e]; exact hA.lo.2.2.1 x
    · rw [e]; exact hA.lo.2.2.2 j hj
    · exact Nat.le_trans hb.size e)
  have HLW : Hid (A.fb < w.heap.size ∧ A.sb < w.heap.size ∧ (∀ x, A.ab x < w.heap.size) ∧ ∀ j, j < A.n → A.G j < w.heap.size) := hM.lts
  have HLT : Hid ((∀ (W : World) (v : Value) {os : List Mv}, OM W w.heap.size v os → ¬ v.ownBlock = some A.fb) ∧ (∀ (W : World) (v : Value) {os : List Mv}, OM W w.heap.size v os → ¬ v.ownBlock = some A.sb) ∧ (∀ (W : World) (v : Value) {os : List Mv}, OM W w.heap.size v os → ∀ x, ¬ v.ownBlock = some (A.ab x)) ∧ (∀ (W : World) (v : Value) {os : List Mv}, OM W w.heap.size v os → ∀ j, j < A.n → ¬ v.ownBlock = some (A.G j))) := by
    obtain ⟨l1, l2, l3, l4⟩ := hM.lts
    exact ⟨fun W v os h e => by have := h.ge _ e; omega, fun W v os h e => by have := h.ge _ e; omega, fun W v os h x e => by have := h.ge _ e; have := l3 x; omega, fun W v os h j hj e => by have := h.ge _ e; have := l4 j hj; omega⟩
  clear hA hb hv hx hM hl hr hs
  go_enter Try.func49, Try.ntmps49
  go_wp2
  go_loopg [20] l.length (fun gh i wr => ∃ (k : Nat) (st1 : Nat → Nat → Nat) (F1 : Ar → Nat → Nat), gh = l.length - k ∧ i = .int .i64 k ∧ k ≤ l.length ∧ Hid (Sp1 A w wr nx num (l.take k) st1 F1))
  case atStart => exact ⟨0, st, F, rfl, rfl, by omega, HP0⟩
  case round =>
    clear HP0
    obtain ⟨k, st1, F1, hgk, rfl, hk, HPr⟩ := hrel
    have HGK := Lib.hid hgk
    clear hgk
    by_cases hlt : k < l.length
    · as_aux_lemma =>
      obtain ⟨bL, oL, had, -, hdt⟩ := (HL.out wr HPr.out.o).dat
      obtain rfl := had (by omega)
      obtain ⟨e1, e2⟩ := hdt k hlt
      obtain ⟨hsn, hxk⟩ := HR.out _ (List.getElem_mem hlt)
      have HTk : Hid (l.take (k + 1) = l.take k ++ [l[k]]) := List.take_succ_eq_append_getElem hlt
      clear had hdt
      generalize l[k] = m at *
      obtain ⟨s, x⟩ := m
      have hsn : s < A.n := hsn
      have hxk : x < A.k := hxk
      have e1 : wr.cell? ⟨bL, oL + k * 2, none⟩ = some (.int .i64 (s : Int)) := e1
      have e2 : wr.cell? ⟨bL, oL + k * 2 + 1, none⟩ = some (.int .i64 (x : Int)) := e2
      have htn := (HX.out.tg (m := (s, x)) hsn hxk).1
      have hbx : Below wr.heap.size wr (wr.alloc (.cells #[.int .i64 (s : Int), .int .i64 (x : Int)] 49)) := bel_box _
      have bx := heap_alloc_new wr (.cells #[.int .i64 (s : Int), .int .i64 (x : Int)] 49)
      have HM1 := Lib.hid (HPr.out.m.below hbx)
      have HO1 : Hid (Only (fun q => A.hotA q ∨ A.hotG q ∨ w.heap.size ≤ q) w (wr.alloc (.cells #[.int .i64 (s : Int), .int .i64 (x : Int)] 49))) := HPr.out.o.trans (Only.of_below hbx)
      have HZB : Hid ((∀ y, wr.heap.size ≠ A.ab y) ∧ wr.heap.size ≠ A.G s) := ⟨fun y e => by have := HPr.out.m.lts.2.2.1 y; omega, fun e => by have := HPr.out.m.lts.2.2.2 s hsn; omega⟩
      have HSS := Lib.hid HPr.out.s
      have HZZ := Lib.hid HPr.out.z
      clear hbx
      go_upto_region 4 with (fail)
      generalize wr.alloc (.cells #[.int .i64 (s : Int), .int .i64 (x : Int)] 49) = w1 at *
      generalize hzb0 : wr.heap.size = zb at *
      clear e1 e2 HPr hzb0
      have g4 := HM1.out.c4
      have gs := HM1.out.row hsn
      have b0 : w1.cell? ⟨zb, 0, none⟩ = some (.int .i64 (s : Int)) := cell_of_row _ _ 0 _ _ _ bx
      have b1 : w1.cell? ⟨zb, 1, none⟩ = some (.int .i64 (x : Int)) := cell_of_row _ _ 1 _ _ _ bx
      go_still_tail 12, (by kernel_rfl)
      change wpList _ _ _ _ _ w1.drew
      have HM2 := Lib.hid (HM1.out.below (Below.drew (Below.refl _ _)))
      have HO2 : Hid (Only (fun q => A.hotA q ∨ A.hotG q ∨ w.heap.size ≤ q) w w1.drew) := HO1.out.trans (Only.of_below (Below.drew (Below.refl _ _)))
      have bx2 : w1.drew.heap[zb]? = _ := bx
      clear g4 gs b0 b1 bx HM1 HO1
      generalize w1.drew = w2 at *
      have gx := HM2.out.set hsn hxk
      have fx := (HM2.out.r s hsn).fz x
      have HM3 := Lib.hid (HM2.out.putS HA.out hsn x num)
      have HO3 : Hid (Only (fun q => A.hotA q ∨ A.hotG q ∨ w.heap.size ≤ q) w (w2.setCell ⟨A.G s, x, none⟩ (.int .i64 (num : Int)))) := HO2.out.trans (Only.set _ _ _ (.inr (.inl ⟨s, hsn, rfl⟩)))
      have HB3 : Hid ((w2.setCell ⟨A.G s, x, none⟩ (.int .i64 (num : Int))).heap[zb]? = some (.cells #[.int .i64 (s : Int), .int .i64 (x : Int)] 49 (0, 0))) := ((Only.set (S := fun q => q = A.G s) _ _ _ rfl).block _ (Array.getElem?_eq_some_iff.1 bx2).1 HZB.out.2).trans bx2
      clear HM2 HO2 bx2
      go_upto_region 5 with (fail)
      clear gx fx
      generalize w2.setCell ⟨A.G s, x, none⟩ (.int .i64 (num : Int)) = w3 at *
      generalize htt : tgN nx (s, x) = t at *
      have HTT := Lib.hid htt
      clear htt
      have hzb := HZB.out.1 .prt
      have HTO : Hid (∀ W {S : Nat → Bool}, IZ A (upT st1 s x num) F1 .prt s t w3 zb x S W → Calls Try.prog 56 #[.pointer (some ⟨A.fb, 0, none⟩), .agg #[.int .i64 (s : Int), .int .i64 (x : Int)]] W (Calm (.int .i64 (t : Int)) W)) := fun W S h => by
        obtain ⟨F', k1, -⟩ := h.fl
        have := to_c A w0 W nx _ F' s x (HBW.out W (HO3.out.trans (h.ho.mono fun q _ e => e.imp (fun e => ⟨.prt, e⟩) fun e => .inr (Nat.le_trans HO3.out.size e)))) HV.out HX.out k1 hsn hxk
        rw [HTT.out] at this
        exact this
      have HI0 : Hid (IZ A (upT st1 s x num) F1 .prt s t w3 zb x (fun _ => false) w3.drew) := ⟨Only.of_below (Below.drew (Below.refl _ _)), HB3.out, F1, HM3.out.below (Below.drew (Below.refl _ _)), fun _ _ => rfl, fun _ => id, fun e => by simp at e, fun e => by simp at e⟩
      refine region_pure hmx (R49_5 A.fb (A.ab .prt) A.n zb s x t) (IZ A (upT st1 s x num) F1 .prt s t w3 zb x) (fun vs => { tmps := (_ :: _ :: _ :: _ :: _ :: _ :: _ :: _ :: _ :: _ :: _ :: _ :: _ :: _ :: _ :: _ :: _ :: _ :: _ :: _ :: _ :: _ :: _ :: _ :: _ :: _ :: _ :: _ :: _ :: _ :: _ :: _ :: _ :: _ :: _ :: _ :: vs 0 :: vs 1 :: vs 2 :: vs 3 :: vs 4 :: vs 5 :: vs 6 :: vs 7 :: vs 8 :: vs 9 :: vs 10 :: vs 11 :: vs 12 :: vs 13 :: vs 15 :: _ :: _ :: _ :: _ :: _ :: _ :: _ :: _ :: _ :: _ :: _ :: _ :: _ :: _ :: _ :: _ :: _ :: _ :: _ :: _ :: _ :: _ :: _ :: _ :: _ :: _ :: _ :: _ :: _ :: _ :: _ :: _ :: _ :: _ :: _ :: _ :: _ :: _ :: _ :: _ :: _ :: _ :: _ :: _ :: _ :: _ :: _ :: _ :: _ :: _ :: _ :: _ :: _ :: _ :: _ :: _ :: _ :: _ :: _ :: _ :: _ :: _ :: _ :: _ :: _ :: _ :: _ :: _ :: _ :: _ :: _ :: _ :: _ :: _ :: _ :: _ :: _ :: _ :: _ :: []).toArray, defers := _ }) (fun n => [u36, u37, u38, u39, u40, u41, u42, u43, u44, u45, u46, u47, u48, u49, undef, u50, undef].getD n undef) rfl (by kernel_rfl) HI0.out ?step ?fin
      case step =>
        intro ix o ho
        match ix, ho with
            | 0, ho =>
              obtain rfl := Option.some.inj ho
              intro S vs W K hS hD hL hI hK
              have HK := Lib.hid hK
              have HI := Lib.hid hI
              clear hK hD hL hI hS ho
              dsimp only
              go_simp
              have h := HK.out _ _ rfl (HI.out.keep (upS_ne (by decide)) (upS_ne (by decide)))
              simp only [upd, Nat.reduceEqDiff, reduceIte] at h
              exact h
            | 1, ho =>
              obtain rfl := Option.some.inj ho
              intro S vs W K hS hD hL hI hK
              have HK := Lib.hid hK
              have HI := Lib.hid hI
              have e0 : vs 0 = .pointer (some ⟨A.fb, 0, none⟩) := hD 0 (by rfl)
              clear hK hD hL hI hS ho
              dsimp only
              go_simp
              have h := HK.out _ _ rfl (HI.out.keep (upS_ne (by decide)) (upS_ne (by decide)))
              simp only [upd, Nat.reduceEqDiff, reduceIte, e0] at h
              exact h
            | 2, ho =>
              obtain rfl := Option.some.inj ho
              intro S vs W K hS hD hL hI hK
              have HK := Lib.hid hK
              have HI := Lib.hid hI
              have e1 : vs 1 = .pointer (some ⟨A.fb, 0, none⟩) := hD 1 (by rfl)
              clear hK hD hL hI hS ho
              dsimp only
              go_simp
              have h := HK.out _ _ rfl (HI.out.keep (upS_ne (by decide)) (upS_ne (by decide)))
              simp only [upd, Nat.reduceEqDiff, reduceIte, e1] at h
              exact h
            | 3, ho =>
              obtain rfl := Option.some.inj ho
              intro S vs W K hS hD hL hI hK
              have HK := Lib.hid hK
              have HI := Lib.hid hI
              have e2 : vs 2 = .pointer (some ⟨A.fb, 5, none⟩) := hD 2 (by rfl)
              obtain ⟨c5, c6, b0, b1⟩ := HI.out.cells
              clear hK hD hL hI hS ho
              dsimp only
              go_simp
              have h := HK.out _ _ rfl (HI.out.keep (upS_ne (by decide)) (upS_ne (by decide)))
              simp only [upd, Nat.reduceEqDiff, reduceIte, e2] at h
              exact h
            | 4, ho =>
              obtain rfl := Option.some.inj ho
              intro S vs W K hS hD hL hI hK
              have HK := Lib.hid hK
              have HI := Lib.hid hI
              clear hK hD hL hI hS ho
              dsimp only
              go_simp
              have h := HK.out _ _ rfl (HI.out.keep (upS_ne (by decide)) (upS_ne (by decide)))
              simp only [upd, Nat.reduceEqDiff, reduceIte] at h
              exact h
            | 5, ho =>
              obtain rfl := Option.some.inj ho
              intro S vs W K hS hD hL hI hK
              have HK := Lib.hid hK
              have HI := Lib.hid hI
              have e4 : vs 4 = .pointer (some ⟨zb, 0, none⟩) := hD 4 (by rfl)
              obtain ⟨c5, c6, b0, b1⟩ := HI.out.cells
              clear hK hD hL hI hS ho
              dsimp only
              go_simp
              have h := HK.out _ _ rfl (HI.out.keep (upS_ne (by decide)) (upS_ne (by decide)))
              simp only [upd, Nat.reduceEqDiff, reduceIte, e4] at h
              exact h
            | 6, ho =>
              obtain rfl := Option.some.inj ho
              intro S vs W K hS hD hL hI hK
              have HK := Lib.hid hK
              have HI := Lib.hid hI
              clear hK hD hL hI hS ho
              dsimp only
              go_simp
              have h := HK.out _ _ rfl (HI.out.keep (upS_ne (by decide)) (upS_ne (by decide)))
              simp only [upd, Nat.reduceEqDiff, reduceIte] at h
              exact h
            | 7, ho =>
              obtain rfl := Option.some.inj ho
              intro S vs W K hS hD hL hI hK
              have HK := Lib.hid hK
              have HI := Lib.hid hI
              have e6 : vs 6 = .pointer (some ⟨A.fb, 0, none⟩) := hD 6 (by rfl)
              clear hK hD hL hI hS ho
              dsimp only
              go_simp
              have h := HK.out _ _ rfl (HI.out.keep (upS_ne (by decide)) (upS_ne (by decide)))
              simp only [upd, Nat.reduceEqDiff, reduceIte, e6] at h
              exact h
            | 8, ho =>
              obtain rfl := Option.some.inj ho
              intro S vs W K hS hD hL hI hK
              have HK := Lib.hid hK
              have HI := Lib.hid hI
              have e7 : vs 7 = .pointer (some ⟨A.fb, 0, none⟩) := hD 7 (by rfl)
              clear hK hD hL hI hS ho
              dsimp only
              go_simp
              have h := HK.out _ _ rfl (HI.out.keep (upS_ne (by decide)) (upS_ne (by decide)))
              simp only [upd, Nat.reduceEqDiff, reduceIte, e7] at h
              exact h
            | 9, ho =>
              obtain rfl := Option.some.inj ho
              intro S vs W K hS hD hL hI hK
              have HK := Lib.hid hK
              have HI := Lib.hid hI
              have e8 : vs 8 = .pointer (some ⟨A.fb, 5, none⟩) := hD 8 (by rfl)
              obtain ⟨c5, c6, b0, b1⟩ := HI.out.cells
              clear hK hD hL hI hS ho
              dsimp only
              go_simp
              have h := HK.out _ _ rfl (HI.out.keep (upS_ne (by decide)) (upS_ne (by decide)))
              simp only [upd, Nat.reduceEqDiff, reduceIte, e8] at h
              exact h
            | 10, ho =>
              obtain rfl := Option.some.inj ho
              intro S vs W K hS hD hL hI hK
              have HK := Lib.hid hK
              have HI := Lib.hid hI
              clear hK hD hL hI hS ho
              dsimp only
              go_simp
              have h := HK.out _ _ rfl (HI.out.keep (upS_ne (by decide)) (upS_ne (by decide)))
              simp only [upd, Nat.reduceEqDiff, reduceIte] at h
              exact h
            | 11, ho =>
              obtain rfl := Option.some.inj ho
              intro S vs W K hS hD hL hI hK
              have HK := Lib.hid hK
              have HI := Lib.hid hI
              obtain ⟨c5, c6, b0, b1⟩ := HI.out.cells
              clear hK hD hL hI hS ho
              dsimp only
              go_simp
              have h := HK.out _ _ rfl (HI.out.keep (upS_ne (by decide)) (upS_ne (by decide)))
              simp only [upd, Nat.reduceEqDiff, reduceIte] at h
              exact h
            | 12, ho =>
              obtain rfl := Option.some.inj ho
              intro S vs W K hS hD hL hI hK
              have HK := Lib.hid hK
              have HI := Lib.hid hI
              have e10 : vs 10 = .pointer (some ⟨A.fb, 0, none⟩) := hD 10 (by rfl)
              have e11 : vs 11 = .agg #[.int .i64 (s : Int), .int .i64 (x : Int)] := hD 11 (by rfl)
              clear hK hD hL hI hS ho
              dsimp only
              go_simp
              refine (HTO.out W HI.out).mono ?_
              rintro e W' ⟨rfl, hb⟩
              have h := HK.out _ _ rfl ((HI.out.below hb).keep (upS_ne (by decide)) (upS_ne (by decide)))
              simp only [upd, Nat.reduceEqDiff, reduceIte, e10, e11] at h
              exact h
            | 13, ho =>
              obtain rfl := Option.some.inj ho
              intro S vs W K hS hD hL hI hK
              have HK := Lib.hid hK
              have HI := Lib.hid hI
              have e3 : vs 3 = .slice (some ⟨A.ab .prt, 0, none⟩) A.n A.n := hD 3 (by rfl)
              have e5 : vs 5 = .int .i64 (s : Int) := hD 5 (by rfl)
              clear hK hD hL hI hS ho
              dsimp only
              go_simp
              have h := HK.out _ _ rfl (HI.out.keep (upS_ne (by decide)) (upS_ne (by decide)))
              simp only [upd, Nat.reduceEqDiff, reduceIte, e3, e5] at h
              exact h
            | 14, ho =>
              obtain rfl := Option.some.inj ho
              intro S vs W K hS hD hL hI hK
              have HK := Lib.hid hK
              have HI := Lib.hid hI
              have e13 : vs 13 = .pointer (some ⟨A.ab .prt, s, none⟩) := hD 13 (by rfl)
              obtain ⟨⟨vz, cz⟩, fz⟩ := HI.out.put hsn
              clear hK hD hL hI hS ho
              dsimp only
              go_simp
              have h := HK.out undef _ trivial (HI.out.one HA.out hzb (upS_ne (by decide)))
              simp only [upd, Nat.reduceEqDiff, reduceIte, e13] at h
              exact h
            | 15, ho =>
              obtain rfl := Option.some.inj ho
              intro S vs W K hS hD hL hI hK
              have HK := Lib.hid hK
              have HI := Lib.hid hI
              have e9 : vs 9 = .slice (some ⟨A.ab .prt, 0, none⟩) A.n A.n := hD 9 (by rfl)
              have e12 : vs 12 = .int .i64 (t : Int) := hD 12 (by rfl)
              clear hK hD hL hI hS ho
              dsimp only
              go_simp
              have h := HK.out _ _ rfl (HI.out.keep (upS_ne (by decide)) (upS_ne (by decide)))
              simp only [upd, Nat.reduceEqDiff, reduceIte, e9, e12] at h
              exact h
            | 16, ho =>
              obtain rfl := Option.some.inj ho
              intro S vs W K hS hD hL hI hK
              have HK := Lib.hid hK
              have HI := Lib.hid hI
              have e15 : vs 15 = .pointer (some ⟨A.ab .prt, t, none⟩) := hD 15 (by rfl)
              obtain ⟨⟨vz, cz⟩, fz⟩ := HI.out.put htn
              clear hK hD hL hI hS ho
              dsimp only
              go_simp
              have h := HK.out undef _ trivial (HI.out.two HA.out hzb (upS_ne (by decide)))
              simp only [upd, Nat.reduceEqDiff, reduceIte, e15] at h
              exact h
            | q + 17, ho => exact absurd ho (by simp)
      case fin =>
        intro S vs W hS hR hI
        obtain ⟨F2, k1, k2, k3, k4, k5⟩ := hI.fl
        have k4 := k4 (hS 14 (by decide))
        have k5 := k5 (hS 16 (by decide))
        have HM4 := Lib.hid k1
        have HF4 : Hid ((∀ z, z ≠ .prt → F2 z = F1 z) ∧ (∀ v, F1 .prt v = 0 → F2 .prt v = 0) ∧ F2 .prt s = 0 ∧ F2 .prt t = 0) := ⟨k2, k3, k4, k5⟩
        have HB4 := Lib.hid hI.bx
        have HO4 : Hid (Only (fun q => A.hotA q ∨ A.hotG q ∨ w.heap.size ≤ q) w W) := HO3.out.trans (hI.ho.mono fun q _ e => e.imp (fun e => ⟨.prt, e⟩) fun e => .inr (Nat.le_trans HO3.out.size e))
        clear hS hR hI k1 k2 k3 k4 k5 HTO HI0 HM3 HB3 HO3 hzb
        generalize vs 0 = q5_0 at *
        generalize vs 1 = q5_1 at *
        generalize vs 2 = q5_2 at *
        generalize vs 3 = q5_3 at *
        generalize vs 4 = q5_4 at *
        generalize vs 5 = q5_5 at *
        generalize vs 6 = q5_6 at *
        generalize vs 7 = q5_7 at *
        generalize vs 8 = q5_8 at *
        generalize vs 9 = q5_9 at *
        generalize vs 10 = q5_10 at *
        generalize vs 11 = q5_11 at *
        generalize vs 12 = q5_12 at *
        generalize vs 13 = q5_13 at *
        generalize vs 15 = q5_15 at *
        clear vs
        obtain ⟨w4, hw4⟩ : ∃ w4, w4 = W := ⟨_, rfl⟩
        subst hw4
        go_upto_region 6 with (fail)
        have hzb := HZB.out.1 .idx
        have HTP : Hid (∀ W {S : Nat → Bool}, IZ A (upT st1 s x num) F2 .idx s t w4 zb x S W → Calls Try.prog 56 #[.pointer (some ⟨A.fb, 0, none⟩), .agg #[.int .i64 (s : Int), .int .i64 (x : Int)]] W (Calm (.int .i64 (t : Int)) W)) := fun W S h => by
          obtain ⟨F', k1, -⟩ := h.fl
          have := to_c A w0 W nx _ F' s x (HBW.out W (HO4.out.trans (h.ho.mono fun q _ e => e.imp (fun e => ⟨.idx, e⟩) fun e => .inr (Nat.le_trans HO4.out.size e)))) HV.out HX.out k1 hsn hxk
          rw [HTT.out] at this
          exact this
        have HI0 : Hid (IZ A (upT st1 s x num) F2 .idx s t w4 zb x (fun _ => false) w4.drew) := ⟨Only.of_below (Below.drew (Below.refl _ _)), HB4.out, F2, HM4.out.below (Below.drew (Below.refl _ _)), fun _ _ => rfl, fun _ => id, fun e => by simp at e, fun e => by simp at e⟩
        refine region_pure hmx (R49_6 A.fb (A.ab .idx) A.n zb s x t) (IZ A (upT st1 s x num) F2 .idx s t w4 zb x) (fun vs => { tmps := (_ :: _ :: _ :: _ :: _ :: _ :: _ :: _ :: _ :: _ :: _ :: _ :: _ :: _ :: _ :: _ :: _ :: _ :: _ :: _ :: _ :: _ :: _ :: _ :: _ :: _ :: _ :: _ :: _ :: _ :: _ :: _ :: _ :: _ :: _ :: _ :: _ :: _ :: _ :: _ :: _ :: _ :: _ :: _ :: _ :: _ :: _ :: _ :: _ :: _ :: _ :: vs 0 :: vs 1 :: vs 2 :: vs 3 :: vs 4 :: vs 5 :: vs 6 :: vs 7 :: vs 8 :: vs 9 :: vs 10 :: vs 11 :: vs 12 :: vs 13 :: vs 15 :: _ :: _ :: _ :: _ :: _ :: _ :: _ :: _ :: _ :: _ :: _ :: _ :: _ :: _ :: _ :: _ :: _ :: _ :: _ :: _ :: _ :: _ :: _ :: _ :: _ :: _ :: _ :: _ :: _ :: _ :: _ :: _ :: _ :: _ :: _ :: _ :: _ :: _ :: _ :: _ :: _ :: _ :: _ :: _ :: _ :: _ :: _ :: _ :: _ :: _ :: _ :: _ :: _ :: _ :: _ :: _ :: _ :: _ :: _ :: _ :: _ :: _ :: _ :: _ :: []).toArray, defers := _ }) (fun n => [u51, u52, u53, u54, u55, u56, u57, u58, u59, u60, u61, u62, u63, u64, undef, u65, undef].getD n undef) rfl (by kernel_rfl) HI0.out ?step ?fin
        case step =>
          intro ix o ho
          match ix, ho with
              | 0, ho =>
                obtain rfl := Option.some.inj ho
                intro S vs W K hS hD hL hI hK
                have HK := Lib.hid hK
                have HI := Lib.hid hI
                clear hK hD hL hI hS ho
                dsimp only
                go_simp
                have h := HK.out _ _ rfl (HI.out.keep (upS_ne (by decide)) (upS_ne (by decide)))
                simp only [upd, Nat.reduceEqDiff, reduceIte] at h
                exact h
              | 1, ho =>
                obtain rfl := Option.some.inj ho
                intro S vs W K hS hD hL hI hK
                have HK := Lib.hid hK
                have HI := Lib.hid hI
                have e0 : vs 0 = .pointer (some ⟨A.fb, 0, none⟩) := hD 0 (by rfl)
                clear hK hD hL hI hS ho
                dsimp only
                go_simp
                have h := HK.out _ _ rfl (HI.out.keep (upS_ne (by decide)) (upS_ne (by decide)))
                simp only [upd, Nat.reduceEqDiff, reduceIte, e0] at h
                exact h
              | 2, ho =>
                obtain rfl := Option.some.inj ho
                intro S vs W K hS hD hL hI hK
                have HK := Lib.hid hK
                have HI := Lib.hid hI
                have e1 : vs 1 = .pointer (some ⟨A.fb, 0, none⟩) := hD 1 (by rfl)
                clear hK hD hL hI hS ho
                dsimp only
                go_simp
                have h := HK.out _ _ rfl (HI.out.keep (upS_ne (by decide)) (upS_ne (by decide)))
                simp only [upd, Nat.reduceEqDiff, reduceIte, e1] at h
                exact h
              | 3, ho =>
                obtain rfl := Option.some.inj ho
                intro S vs W K hS hD hL hI hK
                have HK := Lib.hid hK
                have HI := Lib.hid hI
                have e2 : vs 2 = .pointer (some ⟨A.fb, 6, none⟩) := hD 2 (by rfl)
                obtain ⟨c5, c6, b0, b1⟩ := HI.out.cells
                clear hK hD hL hI hS ho
                dsimp only
                go_simp
                have h := HK.out _ _ rfl (HI.out.keep (upS_ne (by decide)) (upS_ne (by decide)))
                simp only [upd, Nat.reduceEqDiff, reduceIte, e2] at h
                exact h
              | 4, ho =>
                obtain rfl := Option.some.inj ho
                intro S vs W K hS hD hL hI hK
                have HK := Lib.hid hK
                have HI := Lib.hid hI
                clear hK hD hL hI hS ho
                dsimp only
                go_simp
                have h := HK.out _ _ rfl (HI.out.keep (upS_ne (by decide)) (upS_ne (by decide)))
                simp only [upd, Nat.reduceEqDiff, reduceIte] at h
                exact h
              | 5, ho =>
                obtain rfl := Option.some.inj ho
                intro S vs W K hS hD hL hI hK
                have HK := Lib.hid hK
                have HI := Lib.hid hI
                have e4 : vs 4 = .pointer (some ⟨zb, 0, none⟩) := hD 4 (by rfl)
                obtain ⟨c5, c6, b0, b1⟩ := HI.out.cells
                clear hK hD hL hI hS ho
                dsimp only
                go_simp
                have h := HK.out _ _ rfl (HI.out.keep (upS_ne (by decide)) (upS_ne (by decide)))
                simp only [upd, Nat.reduceEqDiff, reduceIte, e4] at h
                exact h
              | 6, ho =>
                obtain rfl := Option.some.inj ho
                intro S vs W K hS hD hL hI hK
                have HK := Lib.hid hK
                have HI := Lib.hid hI
                clear hK hD hL hI hS ho
                dsimp only
                go_simp
                have h := HK.out _ _ rfl (HI.out.keep (upS_ne (by decide)) (upS_ne (by decide)))
                simp only [upd, Nat.reduceEqDiff, reduceIte] at h
                exact h
              | 7, ho =>
                obtain rfl := Option.some.inj ho
                intro S vs W K hS hD hL hI hK
                have HK := Lib.hid hK
                have HI := Lib.hid hI
                have e6 : vs 6 = .pointer (some ⟨A.fb, 0, none⟩) := hD 6 (by rfl)
                clear hK hD hL hI hS ho
                dsimp only
                go_simp
                have h := HK.out _ _ rfl (HI.out.keep (upS_ne (by decide)) (upS_ne (by decide)))
                simp only [upd, Nat.reduceEqDiff, reduceIte, e6] at h
                exact h
              | 8, ho =>
                obtain rfl := Option.some.inj ho
                intro S vs W K hS hD hL hI hK
                have HK := Lib.hid hK
                have HI := Lib.hid hI
                have e7 : vs 7 = .pointer (some ⟨A.fb, 0, none⟩) := hD 7 (by rfl)
                clear hK hD hL hI hS ho
                dsimp only
                go_simp
                have h := HK.out _ _ rfl (HI.out.keep (upS_ne (by decide)) (upS_ne (by decide)))
                simp only [upd, Nat.reduceEqDiff, reduceIte, e7] at h
                exact h
              | 9, ho =>
                obtain rfl := Option.some.inj ho
                intro S vs W K hS hD hL hI hK
                have HK := Lib.hid hK
                have HI := Lib.hid hI
                have e8 : vs 8 = .pointer (some ⟨A.fb, 6, none⟩) := hD 8 (by rfl)
                obtain ⟨c5, c6, b0, b1⟩ := HI.out.cells
                clear hK hD hL hI hS ho
                dsimp only
                go_simp
                have h := HK.out _ _ rfl (HI.out.keep (upS_ne (by decide)) (upS_ne (by decide)))
                simp only [upd, Nat.reduceEqDiff, reduceIte, e8] at h
                exact h
              | 10, ho =>
                obtain rfl := Option.some.inj ho
                intro S vs W K hS hD hL hI hK
                have HK := Lib.hid hK
                have HI := Lib.hid hI
                clear hK hD hL hI hS ho
                dsimp only
                go_simp
                have h := HK.out _ _ rfl (HI.out.keep (upS_ne (by decide)) (upS_ne (by decide)))
                simp only [upd, Nat.reduceEqDiff, reduceIte] at h
                exact h
              | 11, ho =>
                obtain rfl := Option.some.inj ho
                intro S vs W K hS hD hL hI hK
                have HK := Lib.hid hK
                have HI := Lib.hid hI
                obtain ⟨c5, c6, b0, b1⟩ := HI.out.cells
                clear hK hD hL hI hS ho
                dsimp only
                go_simp
                have h := HK.out _ _ rfl (HI.out.keep (upS_ne (by decide)) (upS_ne (by decide)))
                simp only [upd, Nat.reduceEqDiff, reduceIte] at h
                exact h
              | 12, ho =>
                obtain rfl := Option.some.inj ho
                intro S vs W K hS hD hL hI hK
                have HK := Lib.hid hK
                have HI := Lib.hid hI
                have e10 : vs 10 = .pointer (some ⟨A.fb, 0, none⟩) := hD 10 (by rfl)
                have e11 : vs 11 = .agg #[.int .i64 (s : Int), .int .i64 (x : Int)] := hD 11 (by rfl)
                clear hK hD hL hI hS ho
                dsimp only
                go_simp
                refine (HTP.out W HI.out).mono ?_
                rintro e W' ⟨rfl, hb⟩
                have h := HK.out _ _ rfl ((HI.out.below hb).keep (upS_ne (by decide)) (upS_ne (by decide)))
                simp only [upd, Nat.reduceEqDiff, reduceIte, e10, e11] at h
                exact h
              | 13, ho =>
                obtain rfl := Option.some.inj ho
                intro S vs W K hS hD hL hI hK
                have HK := Lib.hid hK
                have HI := Lib.hid hI
                have e3 : vs 3 = .slice (some ⟨A.ab .idx, 0, none⟩) A.n A.n := hD 3 (by rfl)
                have e5 : vs 5 = .int .i64 (s : Int) := hD 5 (by rfl)
                clear hK hD hL hI hS ho
                dsimp only
                go_simp
                have h := HK.out _ _ rfl (HI.out.keep (upS_ne (by decide)) (upS_ne (by decide)))
                simp only [upd, Nat.reduceEqDiff, reduceIte, e3, e5] at h
                exact h
              | 14, ho =>
                obtain rfl := Option.some.inj ho
                intro S vs W K hS hD hL hI hK
                have HK := Lib.hid hK
                have HI := Lib.hid hI
                have e13 : vs 13 = .pointer (some ⟨A.ab .idx, s, none⟩) := hD 13 (by rfl)
                obtain ⟨⟨vz, cz⟩, fz⟩ := HI.out.put hsn
                clear hK hD hL hI hS ho
                dsimp only
                go_simp
                have h := HK.out undef _ trivial (HI.out.one HA.out hzb (upS_ne (by decide)))
                simp only [upd, Nat.reduceEqDiff, reduceIte, e13] at h
                exact h
              | 15, ho =>
                obtain rfl := Option.some.inj ho
                intro S vs W K hS hD hL hI hK
                have HK := Lib.hid hK
                have HI := Lib.hid hI
                have e9 : vs 9 = .slice (some ⟨A.ab .idx, 0, none⟩) A.n A.n := hD 9 (by rfl)
                have e12 : vs 12 = .int .i64 (t : Int) := hD 12 (by rfl)
                clear hK hD hL hI hS ho
                dsimp only
                go_simp
                have h := HK.out _ _ rfl (HI.out.keep (upS_ne (by decide)) (upS_ne (by decide)))
                simp only [upd, Nat.reduceEqDiff, reduceIte, e9, e12] at h
                exact h
              | 16, ho =>
                obtain rfl := Option.some.inj ho
                intro S vs W K hS hD hL hI hK
                have HK := Lib.hid hK
                have HI := Lib.hid hI
                have e15 : vs 15 = .pointer (some ⟨A.ab .idx, t, none⟩) := hD 15 (by rfl)
                obtain ⟨⟨vz, cz⟩, fz⟩ := HI.out.put htn
                clear hK hD hL hI hS ho
                dsimp only
                go_simp
                have h := HK.out undef _ trivial (HI.out.two HA.out hzb (upS_ne (by decide)))
                simp only [upd, Nat.reduceEqDiff, reduceIte, e15] at h
                exact h
              | q + 17, ho => exact absurd ho (by simp)
        case fin =>
          intro S vs W hS hR hI
          obtain ⟨F3, k1, k2, k3, k4, k5⟩ := hI.fl
          have k4 := k4 (hS 14 (by decide))
          have k5 := k5 (hS 16 (by decide))
          have HPn : Hid (Sp1 A w W nx num (l.take (k + 1)) (upT st1 s x num) F3) := by
            have h4 := HF4.out
            refine ⟨k1, fun i j hi hj => ?_, fun m hm => ?_, HO4.out.trans (hI.ho.mono fun q _ e => e.imp (fun e => ⟨.idx, e⟩) fun e => .inr (Nat.le_trans HO4.out.size e))⟩
            · have h0 := HSS.out i j hi hj
              rw [HTk.out, List.mem_append, List.mem_singleton]
              unfold upT upN
              by_cases e : i = s
              · subst e
                rw [if_pos rfl]
                by_cases e2 : j = x
                · subst e2; simp
                · rw [if_neg e2, h0.1]
                  exact ⟨⟨.inl, fun h => h.resolve_right fun h => e2 (by simpa using h)⟩, h0.2⟩
              · rw [if_neg e, h0.1]
                exact ⟨⟨.inl, fun h => h.resolve_right fun h => e (by have := congrArg Prod.fst h; simpa using this)⟩, h0.2⟩
            · have hp : ∀ v, F3 .prt v = F2 .prt v := fun v => by rw [k2 .prt (by decide)]
              have hi : ∀ v, F2 .idx v = F1 .idx v := fun v => by rw [h4.1 .idx (by decide)]
              rw [HTk.out, List.mem_append, List.mem_singleton] at hm
              rw [hp, hp]
              rcases hm with hm | rfl
              · obtain ⟨⟨a1, a2⟩, a3, a4⟩ := HZZ.out m hm
                exact ⟨⟨h4.2.1 _ a1, k3 _ (by rw [hi]; exact a2)⟩, h4.2.1 _ a3, k3 _ (by rw [hi]; exact a4)⟩
              · rw [HTT.out]
                exact ⟨⟨h4.2.2.1, k4⟩, h4.2.2.2, k5⟩
          clear hS hR hI k1 k2 k3 k4 k5 HTP HI0 HM4 HB4 HO4 hzb HF4
          generalize vs 0 = q6_0 at *
          generalize vs 1 = q6_1 at *
          generalize vs 2 = q6_2 at *
          generalize vs 3 = q6_3 at *
          generalize vs 4 = q6_4 at *
          generalize vs 5 = q6_5 at *
          generalize vs 6 = q6_6 at *
          generalize vs 7 = q6_7 at *
          generalize vs 8 = q6_8 at *
          generalize vs 9 = q6_9 at *
          generalize vs 10 = q6_10 at *
          generalize vs 11 = q6_11 at *
          generalize vs 12 = q6_12 at *
          generalize vs 13 = q6_13 at *
          generalize vs 15 = q6_15 at *
          clear vs
          go_wp2
          go_roundg (l.length - (k + 1))
          case measure => have := HGK.out; omega
          case rel => exact ⟨k + 1, _, _, rfl, by go_num, by omega, HPn⟩
    · obtain rfl : k = l.length := by omega
      rw [List.take_length] at HPr
      have HSet : Hid (∀ m, m ∈ l ↔ SetM A.n A.k st1 num m) := fun m => ⟨fun hm => ⟨(HR.out m hm).1, (HR.out m hm).2, ((HPr.out.s m.1 m.2 (HR.out m hm).1 (HR.out m hm).2).1).2 hm⟩, fun hm => ((HPr.out.s m.1 m.2 hm.1 hm.2.1).1).1 hm.2.2⟩
      have HEq : Hid (SetM A.n A.k st1 num = (· ∈ l)) := funext fun m => propext (HSet.out m).symm
      have HPC := Lib.hid (parts_c A w0 wr nx st1 F1 num _ l HA.out (HBW.out wr HPr.out.o) HV.out HX.out HPr.out.m (fun W hW => HL.out W (HPr.out.o.trans (hW.mono fun q _ e => e.imp id fun e => .inr (Nat.le_trans HPr.out.o.size e)))) HSet.out (fun v hv => by
        obtain ⟨m, hm, e | e⟩ := hv
        · rw [← e]; exact (HPr.out.z m ((HSet.out m).2 hm)).1
        · rw [← e]; exact (HPr.out.z m ((HSet.out m).2 hm)).2))
      go_wp2_with fail
      refine HPC.out.mono ?_
      rintro e w5 ⟨rfl, F5, hM5, hO5, hP5, hE5⟩
      rw [HEq.out] at hE5 hP5
      have HPT : Hid (∀ m ∈ l, ∀ m' ∈ l, (F5 .prt m.1 = F5 .prt m'.1 ↔ Rch (EdS (tgN nx) (· ∈ l)) m.1 m'.1 ∧ Rch (EdS (tgN nx) (· ∈ l)) m'.1 m.1) ∧ (F5 .prt (tgN nx m) = F5 .prt m'.1 ↔ Rch (EdS (tgN nx) (· ∈ l)) (tgN nx m) m'.1 ∧ Rch (EdS (tgN nx) (· ∈ l)) m'.1 (tgN nx m))) := fun m hm m' hm' => ⟨hE5 _ _ ⟨m, hm, .inl rfl⟩ ⟨m', hm', .inl rfl⟩, hE5 _ _ ⟨m, hm, .inr rfl⟩ ⟨m', hm', .inl rfl⟩⟩
      have HPB : Hid (∀ m ∈ l, F5 .prt m.1 ≤ A.n) := fun m hm => (hP5 _ ⟨m, hm, .inl rfl⟩).2
      have HM5 := Lib.hid hM5
      have HO5 : Hid (Only (fun q => A.hotA q ∨ A.hotG q ∨ w.heap.size ≤ q) w w5) := HPr.out.o.trans (hO5.mono fun q _ e => e.imp id fun e => .inr (Nat.le_trans HPr.out.o.size e))
      have HST1 : Hid (∀ i j, i < A.n → j < A.k → st1 i j ≤ num) := fun i j hi hj => (HPr.out.s i j hi hj).2
      clear hM5 hO5 hP5 hE5 HPC HPr HSet
      have hbm : Below w5.heap.size w5 (w5.alloc (.map #[] 0)) := bel_box _
      have HCB : Hid (CB (w5.alloc (.map #[] 0)) w.heap.size (.slice none 0 0) [] [] (.slice none 0 0) [] w5.heap.size []) := ⟨World.ownsRow_nil _ _ _ _, fun j hj => absurd hj (by simp), OM_nil _ _, NumI.made _, by
        refine List.pairwise_cons.2 ⟨fun u hu => ?_, List.pairwise_cons.2 ⟨fun u hu => ?_, List.pairwise_cons.2 ⟨fun u hu => absurd hu (by simp), List.Pairwise.nil⟩⟩⟩
        · simp only [List.mem_cons, List.not_mem_nil, or_false] at hu
          rcases hu with rfl | rfl <;> exact (apart_none rfl).symm
        · exact apart_none rfl, HO5.out.size⟩
      have HM6 := Lib.hid (HM5.out.below hbm)
      have HO6 : Hid (Only (fun q => A.hotA q ∨ A.hotG q ∨ w.heap.size ≤ q) w (w5.alloc (.map #[] 0))) := HO5.out.trans (Only.of_below hbm)
      clear hbm HM5 HO5
      have HMM := @run_makeMap Try.prog
      go_wp2
      clear HMM
      generalize w5.alloc (.map #[] 0) = w6 at *
      generalize w5.heap.size = mb at *
      go_loopg [11, 12, 74] l.length (fun gh c11 c12 i wr => ∃ (k : Nat) (ks : List Nat) (comps : List (List Mv)) (os : List Mv) (vals : List Value), gh = l.length - k ∧ i = .int .i64 k ∧ k ≤ l.length ∧ comps.length ≤ k ∧ Hid (CB wr w.heap.size c11 vals comps c12 os mb ks) ∧
        Hid (GInv (F5 .prt) (tgN nx) (l.take k) ks comps os) ∧ Hid (FlM A wr st1 F5) ∧ Hid (Only (fun q => A.hotA q ∨ A.hotG q ∨ w.heap.size ≤ q) w wr))
      case atStart => exact ⟨0, [], [], [], [], rfl, rfl, by omega, Nat.le_refl _, HCB, GInv.start, HM6, HO6⟩
      case round =>
        clear HCB HM6 HO6
        obtain ⟨k, ks, comps, os, vals, hgk, rfl, hk, hck, HCr, HGr, HMr, HOr⟩ := hrel
        have HGK := Lib.hid hgk
        clear hgk
        by_cases hlt : k < l.length
        · as_aux_lemma =>
          obtain ⟨bL, oL, had, -, hdt⟩ := (HL.out wr HOr.out).dat
          obtain rfl := had (by omega)
          obtain ⟨e1, e2⟩ := hdt k hlt
          have hml := List.getElem_mem hlt
          obtain ⟨hsn, hxk⟩ := HR.out _ hml
          have HTk : Hid (l.take (k + 1) = l.take k ++ [l[k]]) := List.take_succ_eq_append_getElem hlt
          have HPm := Lib.hid (HPB.out _ hml)
          clear had hdt hml
          generalize l[k] = m at *
          obtain ⟨s, x⟩ := m
          have hsn : s < A.n := hsn
          have hxk : x < A.k := hxk
          have HPm : Hid (F5 .prt s ≤ A.n) := HPm
          have e1 : wr.cell? ⟨bL, oL + k * 2, none⟩ = some (.int .i64 (s : Int)) := e1
          have e2 : wr.cell? ⟨bL, oL + k * 2 + 1, none⟩ = some (.int .i64 (x : Int)) := e2
          have htn := (HX.out.tg (m := (s, x)) hsn hxk).1
          have hbx : Below wr.heap.size wr (wr.alloc (.cells #[.int .i64 (s : Int), .int .i64 (x : Int)] 49)) := bel_box _
          have bx := heap_alloc_new wr (.cells #[.int .i64 (s : Int), .int .i64 (x : Int)] 49)
          have HM1 := Lib.hid (HMr.out.below hbx)
          have HC1 := Lib.hid (HCr.out.below hbx)
          have HO1 : Hid (Only (fun q => A.hotA q ∨ A.hotG q ∨ w.heap.size ≤ q) w (wr.alloc (.cells #[.int .i64 (s : Int), .int .i64 (x : Int)] 49))) := HOr.out.trans (Only.of_below hbx)
          have HZL := Lib.hid HCr.out.lts
          clear hbx
          go_upto_region 15 with (fail)
          generalize wr.alloc (.cells #[.int .i64 (s : Int), .int .i64 (x : Int)] 49) = w1 at *
          generalize wr.heap.size = zb at *
          clear e1 e2 HCr HMr HOr
          have g5 := HM1.out.c5
          have b0 : w1.cell? ⟨zb, 0, none⟩ = some (.int .i64 (s : Int)) := cell_of_row _ _ 0 _ _ _ bx
          have xs := HM1.out.arr .prt hsn
          refine wp_region_quiet_lit (by kernel_rfl) (by kernel_rfl) ?_
          ((repeat (go_big_quiet_step (fail))); refine wpQuiet_nil ?_; rintro _ ⟨nq, rfl⟩)
          have HM2 := Lib.hid (HM1.out.below (below_draws w1 w1.heap.size nq))
          have HC2 := Lib.hid (HC1.out.below (below_draws w1 w1.heap.size nq))
          have HO2 : Hid (Only (fun q => A.hotA q ∨ A.hotG q ∨ w.heap.size ≤ q) w (w1.drewN nq)) := HO1.out.trans (Only.of_below (below_draws _ _ _))
          have bx2 : (w1.drewN nq).heap[zb]? = _ := bx
          clear g5 b0 xs bx HM1 HC1 HO1
          generalize w1.drewN nq = w2 at *
          generalize htt : tgN nx (s, x) = t at *
          have HTT := Lib.hid htt
          clear htt
          have HTO : Hid (∀ W, Below w2.heap.size w2 W → Calls Try.prog 56 #[.pointer (some ⟨A.fb, 0, none⟩), .agg #[.int .i64 (s : Int), .int .i64 (x : Int)]] W (Calm (.int .i64 (t : Int)) W)) := fun W h => by
            have := to_c A w0 W nx _ F5 s x (HBW.out W (HO2.out.trans (Only.of_below h))) HV.out HX.out (HM2.out.below h) hsn hxk
            rw [HTT.out] at this
            exact this
          have HCE : Hid (∀ W, Below w2.heap.size w2 W → W.cell? ⟨A.fb, 5, none⟩ = some (.slice (some ⟨A.ab .prt, 0, none⟩) A.n A.n) ∧ W.cell? ⟨zb, 0, none⟩ = some (.int .i64 (s : Int)) ∧ W.cell? ⟨zb, 1, none⟩ = some (.int .i64 (x : Int)) ∧ W.cell? ⟨A.ab .prt, t, none⟩ = some (.int .i64 (F5 .prt t : Int))) := fun W h => by
            have hM := HM2.out.below h
            have hB := (h.block _ (Array.getElem?_eq_some_iff.1 bx2).1).trans bx2
            exact ⟨hM.c5, cell_of_row _ _ 0 _ _ _ hB, cell_of_row _ _ 1 _ _ _ hB, hM.arr .prt htn⟩
          obtain ⟨b, hbq⟩ : ∃ b, (((F5 .prt t : Nat) : Int) != ((F5 .prt s : Nat) : Int)) = b := ⟨_, rfl⟩
          have HBQ := Lib.hid hbq
          go_upto_region 16 with (fail)
          refine region_pure hmx (R49_16 A.fb (A.ab .prt) A.n zb s x t (F5 .prt t) (F5 .prt s) b) (fun _ W => Below w2.heap.size w2 W) (fun vs => { tmps := (_ :: _ :: _ :: _ :: _ :: _ :: _ :: _ :: _ :: _ :: _ :: _ :: _ :: _ :: _ :: _ :: _ :: _ :: _ :: _ :: _ :: _ :: _ :: _ :: _ :: _ :: _ :: _ :: _ :: _ :: _ :: _ :: _ :: _ :: _ :: _ :: _ :: _ :: _ :: _ :: _ :: _ :: _ :: _ :: _ :: _ :: _ :: _ :: _ :: _ :: _ :: _ :: _ :: _ :: _ :: _ :: _ :: _ :: _ :: _ :: _ :: _ :: _ :: _ :: _ :: _ :: _ :: _ :: _ :: _ :: _ :: _ :: _ :: _ :: _ :: _ :: _ :: _ :: _ :: _ :: _ :: _ :: _ :: _ :: _ :: _ :: vs 0 :: vs 1 :: vs 2 :: vs 3 :: vs 4 :: vs 5 :: vs 6 :: vs 7 :: vs 8 :: vs 9 :: vs 10 :: _ :: _ :: _ :: _ :: _ :: _ :: _ :: _ :: _ :: _ :: _ :: _ :: _ :: _ :: _ :: _ :: _ :: _ :: _ :: _ :: _ :: _ :: _ :: _ :: _ :: _ :: _ :: _ :: _ :: _ :: _ :: _ :: _ :: []).toArray, defers := _ }) (fun n => [u86, u87, u88, u89, u90, u91, u92, u93, u94, u95, u96].getD n undef) rfl (by kernel_rfl) (Below.drew (Below.refl _ _)) ?step ?fin
          case step =>
            intro ix o ho
            match ix, ho with
            | 0, ho =>
              obtain rfl := Option.some.inj ho
              intro S vs W K hS hD hL hI hK
              have HK := Lib.hid hK
              have HI := Lib.hid hI
              clear hK hD hL hI hS ho
              dsimp only
              go_simp
              have h := HK.out _ _ rfl (HI.out)
              simp only [upd, Nat.reduceEqDiff, reduceIte] at h
              exact h
            | 1, ho =>
              obtain rfl := Option.some.inj ho
              intro S vs W K hS hD hL hI hK
              have HK := Lib.hid hK
              have HI := Lib.hid hI
              have e0 : vs 0 = .pointer (some ⟨A.fb, 0, none⟩) := hD 0 (by rfl)
              clear hK hD hL hI hS ho
              dsimp only
              go_simp
              have h := HK.out _ _ rfl (HI.out)
              simp only [upd, Nat.reduceEqDiff, reduceIte, e0] at h
              exact h
            | 2, ho =>
              obtain rfl := Option.some.inj ho
              intro S vs W K hS hD hL hI hK
              have HK := Lib.hid hK
              have HI := Lib.hid hI
              have e1 : vs 1 = .pointer (some ⟨A.fb, 0, none⟩) := hD 1 (by rfl)
              clear hK hD hL hI hS ho
              dsimp only
              go_simp
              have h := HK.out _ _ rfl (HI.out)
              simp only [upd, Nat.reduceEqDiff, reduceIte, e1] at h
              exact h
            | 3, ho =>
              obtain rfl := Option.some.inj ho
              intro S vs W K hS hD hL hI hK
              have HK := Lib.hid hK
              have HI := Lib.hid hI
              have e2 : vs 2 = .pointer (some ⟨A.fb, 5, none⟩) := hD 2 (by rfl)
              obtain ⟨c5, b0, b1, xt⟩ := HCE.out W HI.out
              clear hK hD hL hI hS ho
              dsimp only
              go_simp
              have h := HK.out _ _ rfl (HI.out)
              simp only [upd, Nat.reduceEqDiff, reduceIte, e2] at h
              exact h
            | 4, ho =>
              obtain rfl := Option.some.inj ho
              intro S vs W K hS hD hL hI hK
              have HK := Lib.hid hK
              have HI := Lib.hid hI
              clear hK hD hL hI hS ho
              dsimp only
              go_simp
              have h := HK.out _ _ rfl (HI.out)
              simp only [upd, Nat.reduceEqDiff, reduceIte] at h
              exact h
            | 5, ho =>
              obtain rfl := Option.some.inj ho
              intro S vs W K hS hD hL hI hK
              have HK := Lib.hid hK
              have HI := Lib.hid hI
              obtain ⟨c5, b0, b1, xt⟩ := HCE.out W HI.out
              clear hK hD hL hI hS ho
              dsimp only
              go_simp
              have h := HK.out _ _ rfl (HI.out)
              simp only [upd, Nat.reduceEqDiff, reduceIte] at h
              exact h
            | 6, ho =>
              obtain rfl := Option.some.inj ho
              intro S vs W K hS hD hL hI hK
              have HK := Lib.hid hK
              have HI := Lib.hid hI
              have e4 : vs 4 = .pointer (some ⟨A.fb, 0, none⟩) := hD 4 (by rfl)
              have e5 : vs 5 = .agg #[.int .i64 (s : Int), .int .i64 (x : Int)] := hD 5 (by rfl)
              clear hK hD hL hI hS ho
              dsimp only
              go_simp
              refine (HTO.out W HI.out).mono ?_
              rintro e W' ⟨rfl, hb⟩
              have h := HK.out _ _ rfl (HI.out.trans (hb.mono HI.out.size))
              simp only [upd, Nat.reduceEqDiff, reduceIte, e4, e5] at h
              exact h
            | 7, ho =>
              obtain rfl := Option.some.inj ho
              intro S vs W K hS hD hL hI hK
              have HK := Lib.hid hK
              have HI := Lib.hid hI
              have e3 : vs 3 = .slice (some ⟨A.ab .prt, 0, none⟩) A.n A.n := hD 3 (by rfl)
              have e6 : vs 6 = .int .i64 (t : Int) := hD 6 (by rfl)
              clear hK hD hL hI hS ho
              dsimp only
              go_simp
              have h := HK.out _ _ rfl (HI.out)
              simp only [upd, Nat.reduceEqDiff, reduceIte, e3, e6] at h
              exact h
            | 8, ho =>
              obtain rfl := Option.some.inj ho
              intro S vs W K hS hD hL hI hK
              have HK := Lib.hid hK
              have HI := Lib.hid hI
              have e7 : vs 7 = .pointer (some ⟨A.ab .prt, t, none⟩) := hD 7 (by rfl)
              obtain ⟨c5, b0, b1, xt⟩ := HCE.out W HI.out
              clear hK hD hL hI hS ho
              dsimp only
              go_simp
              have h := HK.out _ _ rfl (HI.out)
              simp only [upd, Nat.reduceEqDiff, reduceIte, e7] at h
              exact h
            | 9, ho =>
              obtain rfl := Option.some.inj ho
              intro S vs W K hS hD hL hI hK
              have HK := Lib.hid hK
              have HI := Lib.hid hI
              clear hK hD hL hI hS ho
              dsimp only
              go_simp
              have h := HK.out _ _ rfl (HI.out)
              simp only [upd, Nat.reduceEqDiff, reduceIte] at h
              exact h
            | 10, ho =>
              obtain rfl := Option.some.inj ho
              intro S vs W K hS hD hL hI hK
              have HK := Lib.hid hK
              have HI := Lib.hid hI
              have e8 : vs 8 = .int .i64 (F5 .prt t : Int) := hD 8 (by rfl)
              have e9 : vs 9 = .int .i64 (F5 .prt s : Int) := hD 9 (by rfl)
              clear hK hD hL hI hS ho
              dsimp only
              go_simp
              have h := HK.out _ _ rfl (HI.out)
              simp only [upd, Nat.reduceEqDiff, reduceIte, e8, e9] at h
              exact h
            | q + 11, ho => exact absurd ho (by simp)
          case fin =>
            intro S vs W hS hR hI
            have e10 : vs 10 = .bool b := hR 10 (by decide)
            rw [e10]
            clear e10 hbq
            have HM3 := Lib.hid (HM2.out.below hI)
            have HC3 := Lib.hid (HC2.out.below hI)
            have HO3 : Hid (Only (fun q => A.hotA q ∨ A.hotG q ∨ w.heap.size ≤ q) w W) := HO2.out.trans (Only.of_below hI)
            have hBX := (hI.block _ (Array.getElem?_eq_some_iff.1 bx2).1).trans bx2
            clear hS hR hI bx2 HM2 HC2 HO2 HTO HCE
            generalize vs 0 = q16_0 at *
            generalize vs 1 = q16_1 at *
            generalize vs 2 = q16_2 at *
            generalize vs 3 = q16_3 at *
            generalize vs 4 = q16_4 at *
            generalize vs 5 = q16_5 at *
            generalize vs 6 = q16_6 at *
            generalize vs 7 = q16_7 at *
            generalize vs 8 = q16_8 at *
            generalize vs 9 = q16_9 at *
            generalize vs 10 = q16_10 at *
            clear vs
            obtain ⟨w3, hw3⟩ : ∃ w3, w3 = W := ⟨_, rfl⟩
            subst hw3
            have b0 : w3.cell? ⟨zb, 0, none⟩ = some (.int .i64 (s : Int)) := cell_of_row _ _ 0 _ _ _ hBX
            have b1 : w3.cell? ⟨zb, 1, none⟩ = some (.int .i64 (x : Int)) := cell_of_row _ _ 1 _ _ _ hBX
            cases b
            · have hpe : F5 .prt t = F5 .prt s := by
                have h : (((F5 .prt t : Nat) : Int) != ((F5 .prt s : Nat) : Int)) = false := HBQ.out
                simp at h; omega
              have HPE : Hid (F5 .prt (tgN nx (s, x)) = F5 .prt (s, x).1) := by show _ = _; rw [HTT.out]; exact hpe
              clear hpe HBQ
              generalize hcc : F5 .prt s = c at *
              have HCC := Lib.hid hcc
              clear hcc
              have hc64 : I64 (c : Int) := by have := HPm.out; have := HX.out.n3; unfold I64; omega
              have HKL := Lib.hid HGr.out.ln
              have hk1 : comps.length ≤ ks.length := Nat.le_of_eq HKL.out
              have hk2 : ks.length ≤ comps.length := Nat.le_of_eq HKL.out.symm
              have hget := HC3.out.m.get hc64
              go_upto_region 18 with (fail)
              go_cut [16, 17] (fun c16 c17 wx => ∃ (n : Int) (b : Bool), w3 = wx ∧ c16 = .int .i64 n ∧ c17 = .bool b ∧ Hid (b = true → c ∈ ks ∧ n = ((ks.idxOf c : Nat) : Int)) ∧ Hid (b = false → c ∉ ks))
              case first =>
                by_cases hin : c ∈ ks
                · have hlk := hget.1 (castL_mem.2 hin)
                  rw [castL_idx] at hlk
                  have HIN := Lib.hid hin
                  clear hget hin
                  go_wp2_with fail
                  go_meet
                  case rel => exact ⟨_, true, rfl, rfl, rfl, (fun _ => ⟨HIN.out, rfl⟩), (fun e => by cases e)⟩
                · obtain ⟨c0, hlk⟩ := hget.2 fun h => hin (castL_mem.1 h)
                  have HIN := Lib.hid hin
                  clear hget hin
                  go_wp2_with fail
                  go_meet
                  case rel => exact ⟨_, false, rfl, rfl, rfl, (fun e => by cases e), fun _ => HIN.out⟩
              case rest =>
                obtain ⟨n, b, hw, rfl, rfl, HN1, HN0⟩ := hcut
                subst hw
                clear hget
                obtain ⟨aC, cC, hvc⟩ := ownsRow_slice HC3.out.r
                subst hvc
                go_upto_if 108 with (fail)
                go_cut [11, 16] (fun c11 c16 wx => ∃ (ks1 : List Nat) (comps1 : List (List Mv)) (vals1 : List Value) (j : Nat), c16 = .int .i64 (j : Int) ∧ j < comps1.length ∧ comps1.length ≤ k + 1 ∧ Hid (CB wx w.heap.size c11 vals1 comps1 u12 os mb ks1) ∧ Hid (GInv (F5 .prt) (tgN nx) (l.take (k + 1)) ks1 (comps1.set j (comps1.getD j [] ++ [(s, x)])) os) ∧ Hid (FlM A wx st1 F5) ∧ Hid (Only (fun q => A.hotA q ∨ A.hotG q ∨ w.heap.size ≤ q) w wx) ∧ Hid (wx.heap[zb]? = some (.cells #[.int .i64 (s : Int), .int .i64 (x : Int)] 49 (0, 0))) ∧ Hid ((comps1.getD j []).length ≤ 200000))
                case first =>
                  have hBz := HO3.out.size
                  cases b
                  · have hn := HN0.out rfl
                    have HNN := Lib.hid hn
                    have hks : ks.length ≤ 2001 := by
                      have h := ndl_len (n := A.n + 1) HGr.out.nd fun v hv => by
                        obtain ⟨j, hj, rfl⟩ := List.getElem_of_mem hv
                        obtain ⟨m0, hm0⟩ := List.exists_mem_of_ne_nil _ (HGr.out.ne j hj)
                        rw [HGr.out.cs j hj, List.mem_filter] at hm0
                        have h1 := HPB.out m0 (List.mem_of_mem_take hm0.1)
                        have h2 := hm0.2
                        simp only [Bool.and_eq_true, decide_eq_true_eq] at h2
                        rw [getD_lt _ _ _ hj] at h2
                        omega
                      omega
                    obtain ⟨w8, hup, hnm, hgr⟩ := HC3.out.m.upd hc64 (by rw [castL_mem]; exact hn) (by rw [castL_len]; omega)
                    rw [castL_len, ← HKL.out] at hup
                    rw [← castL_one, ← castL_app] at hnm
                    have HC8 := Lib.hid (HC3.out.key hnm hgr)
                    have hoS : Only (fun q => q = mb) w3 w8 := (Only.of_grown hgr).mono fun q _ e => (Option.some.inj e).symm
                    have HM8 : Hid (FlM A w8 st1 F5) := HM3.out.only hoS (fun e => by have := HC3.out.ge; have := HLW.out.1; omega) (fun e => by have := HC3.out.ge; have := HLW.out.2.1; omega) (fun x e => by have := HC3.out.ge; have := HLW.out.2.2.1 x; omega) (fun j hj e => by have := HC3.out.ge; have := HLW.out.2.2.2 j hj; omega)
                    have HO8 : Hid (Only (fun q => A.hotA q ∨ A.hotG q ∨ w.heap.size ≤ q) w w8) := HO3.out.trans (hoS.mono fun q _ e => .inr (.inr (by rw [e]; exact HC3.out.ge)))
                    have HB8 : Hid (w8.heap[zb]? = some (.cells #[.int .i64 (s : Int), .int .i64 (x : Int)] 49 (0, 0))) := (hoS.block _ (Array.getElem?_eq_some_iff.1 hBX).1 (fun e => by have := HZL.out (boxB mb) (by simp) mb rfl; omega)).trans hBX
                    have hown := HC8.out.r
                    have hB8 := HO8.out.size
                    have hcl : comps.length ≤ 2001 := by omega
                    clear hn hnm hgr hoS hks b0 b1
                    go_wp2_with (at_builtin; refine app_nilrow rfl _ _ rfl w.heap.size _ comps.length vals hown rfl _ (by simp) rfl (by omega) hB8 ?_; intro v' w' hown' hg hmv; have HC9 := Lib.hid (HC8.out.comp hown' hg hmv); have HGw := Lib.hid (Only.of_grown hg); clear hown' hg hmv hown hup)
                    have hge : ∀ q, (Value.slice aC comps.length cC).ownBlock = some q → w.heap.size ≤ q ∧ q < zb := fun q hq => ⟨HC8.out.ges _ (by simp) q hq, HZL.out _ (by simp) q hq⟩
                    have HM9 : Hid (FlM A w' st1 F5) := HM8.out.only HGw.out (fun e => by have := hge _ e; have := HLW.out.1; omega) (fun e => by have := hge _ e; have := HLW.out.2.1; omega) (fun x e => by have := hge _ e; have := HLW.out.2.2.1 x; omega) (fun j hj e => by have := hge _ e; have := HLW.out.2.2.2 j hj; omega)
                    have HO9 : Hid (Only (fun q => A.hotA q ∨ A.hotG q ∨ w.heap.size ≤ q) w w') := HO8.out.trans (HGw.out.mono fun q _ e => .inr (.inr (hge q e).1))
                    have HB9 : Hid (w'.heap[zb]? = some (.cells #[.int .i64 (s : Int), .int .i64 (x : Int)] 49 (0, 0))) := (HGw.out.block _ (Array.getElem?_eq_some_iff.1 HB8.out).1 (fun e => by have := hge _ e; omega)).trans HB8.out
                    have HGn : Hid (GInv (F5 .prt) (tgN nx) (l.take (k + 1)) (ks ++ [c]) ((comps ++ [[]]).set comps.length ((comps ++ [[]] : List (List Mv)).getD comps.length [] ++ [(s, x)])) os) := by
                      show GInv _ _ _ _ _ _
                      have h := HGr.out.new (m := (s, x)) (HPE.out.trans HCC.out.symm) (by show F5 .prt s ∉ ks; rw [HCC.out]; exact HNN.out)
                      rw [HTk.out, show (comps ++ [[]] : List (List Mv)).getD comps.length [] = [] by simp [List.getD]]
                      rw [show F5 .prt (s, x).1 = c from HCC.out] at h
                      exact h
                    clear hge HGw
                    go_wp2_with fail
                    go_meet
                    case rel => exact ⟨_, _, _, comps.length, rfl, by simp, by simp; omega, HC9, HGn, HM9, HO9, HB9, by simp [Hid, List.getD]⟩
                  · obtain ⟨hin, hnn⟩ := HN1.out rfl
                    subst hnn
                    have hix : ks.idxOf c < ks.length := List.idxOf_lt_length_of_mem hin
                    have HIX : Hid (ks.getD (ks.idxOf c) 0 = c) := by show _ = _; rw [getD_lt _ _ _ hix]; exact List.getElem_idxOf hix
                    have HGn : Hid (GInv (F5 .prt) (tgN nx) (l.take (k + 1)) ks (comps.set (ks.idxOf c) (comps.getD (ks.idxOf c) [] ++ [(s, x)])) os) := by
                      show GInv _ _ _ _ _ _
                      rw [HTk.out]
                      exact HGr.out.old (m := (s, x)) (HPE.out.trans HCC.out.symm) hix (by rw [HIX.out]; exact HCC.out.symm)
                    have HLJ : Hid ((comps.getD (ks.idxOf c) []).length ≤ 200000) := by
                      show _ ≤ _
                      rw [HGr.out.cs _ hix]
                      have h2 := List.length_filter_le (fun m => decide (F5 .prt (tgN nx m) = F5 .prt m.1) && decide (F5 .prt m.1 = ks.getD (ks.idxOf c) 0)) (l.take k)
                      rw [List.length_take] at h2
                      omega
                    have HBX := Lib.hid hBX
                    clear hin b0 b1
                    generalize ks.idxOf c = j at *
                    go_wp2_with fail
                    go_meet
                    case rel => exact ⟨ks, comps, vals, j, rfl, by omega, by omega, HC3, HGn, HM3, HO3, HBX, HLJ⟩
                case rest =>
                  obtain ⟨ks1, comps1, vals1, j, rfl, hj, hjk, HC4, HG4, HM4, HO4, HB4, HLJ⟩ := hcut
                  clear HN1 HN0 HC3 HM3 HO3 hBX b0 b1 HGr
                  obtain ⟨aC1, cC1, hvc⟩ := ownsRow_slice HC4.out.r
                  obtain ⟨gC, hgC⟩ := ownsRow_at (hvc ▸ HC4.out.r)
                  obtain rfl := hgC (by omega)
                  rw [hvc] at HC4
                  subst hvc
                  obtain ⟨aj, cj, hvj⟩ := (HC4.out.e j hj).slice
                  have HVJ := Lib.hid hvj
                  have hOM := HC4.out.e j hj
                  rw [hvj] at hOM
                  have k0 : wc.cell? ⟨gC, j, none⟩ = some (.slice aj (comps1.getD j []).length cj) := by
                    rw [World.ownsRow.cellAt HC4.out.r j (by omega), ← hvj]
                    have hl : j < vals1.length := by rw [HC4.out.vl]; exact hj
                    simp [List.getD, hl]
                  have f0 : wc.frozen? ⟨gC, j, none⟩ = false := World.ownsRow.frozenAt HC4.out.r j
                  have b0 : wc.cell? ⟨zb, 0, none⟩ = some (.int .i64 (s : Int)) := cell_of_row _ _ 0 _ _ _ HB4.out
                  have b1 : wc.cell? ⟨zb, 1, none⟩ = some (.int .i64 (x : Int)) := cell_of_row _ _ 1 _ _ _ HB4.out
                  have hBz := HO4.out.size
                  have hcl : comps1.length ≤ 200001 := by omega
                  have hlj := HLJ.out
                  have k0' : (wc.alloc (.cells #[.int .i64 (s : Int), .int .i64 (x : Int)] 49)).cell? ⟨gC, j, none⟩ = some (.slice aj (comps1.getD j []).length cj) := cellB (bel_box _) k0
                  clear hvj hgC
                  have hBj : (j : Int) < comps1.length := by omega
                  have HGN : Hid (¬ A.fb = gC ∧ ¬ A.sb = gC ∧ (∀ x, ¬ A.ab x = gC) ∧ ∀ i, i < A.n → ¬ A.G i = gC) := by
                    have h1 := HC4.out.ges _ (List.mem_cons_of_mem _ List.mem_cons_self) gC rfl
                    have h2 := HLW.out
                    exact ⟨fun e => by omega, fun e => by omega, fun x e => by have := h2.2.2.1 x; omega, fun i hi e => by have := h2.2.2.2 i hi; omega⟩
                  go_upto_region 23 with (fail)
                  obtain ⟨lj, hlje⟩ : ∃ lj, lj = comps1.getD j [] := ⟨_, rfl⟩
                  have HLE := Lib.hid hlje
                  rw [← hlje] at hOM k0 k0' hlj
                  clear hlje
                  have HLAW : Hid (∀ y0 w9, OM w9 w.heap.size y0 (lj ++ [(s, x)]) → wc.grownBy w9 (Value.slice aj lj.length cj).ownBlock → Moved wc (.slice aj lj.length cj) y0 → ∃ ay cy v0, y0 = .slice ay (lj.length + 1) cy ∧ w9.cell? ⟨gC, j, none⟩ = some v0 ∧ w9.frozen? ⟨gC, j, none⟩ = false ∧
                      Hid (CB (w9.setCell ⟨gC, j, none⟩ y0) w.heap.size (.slice (some ⟨gC, 0, none⟩) comps1.length cC1) (vals1.set j y0) (comps1.set j (comps1.getD j [] ++ [(s, x)])) u12 os mb ks1) ∧ Hid (FlM A (w9.setCell ⟨gC, j, none⟩ y0) st1 F5) ∧ Hid (Only (fun q => A.hotA q ∨ A.hotG q ∨ w.heap.size ≤ q) w (w9.setCell ⟨gC, j, none⟩ y0))) := by
                    intro y0 w9 hown9 hg9 hmv9
                    obtain ⟨ay, cy, hvy⟩ := hown9.slice
                    rw [List.length_append, List.length_singleton] at hvy
                    have hro := ownsRow_only HC4.out.r (Only.of_grown hg9) (by have := HC4.out.gcne hj; rw [HVJ.out, ← HLE.out] at this; exact this)
                    have k9 : w9.cell? ⟨gC, j, none⟩ = some (vals1[j]'(by rw [HC4.out.vl]; exact hj)) := (World.ownsRow.cellAt hro j (by omega)).trans (by simp)
                    refine ⟨ay, cy, _, hvy, k9, World.ownsRow.frozenAt hro j, HC4.out.inner hj (v' := y0) (m := (s, x)) (by rw [← HLE.out]; exact hown9) (by rw [HVJ.out, ← HLE.out]; exact hg9) (by rw [HVJ.out, ← HLE.out]; exact hmv9), ?_, ?_⟩
                    · exact (HM4.out.only (Only.of_grown hg9) (HLT.out.1 _ _ hOM) (HLT.out.2.1 _ _ hOM) (HLT.out.2.2.1 _ _ hOM) (HLT.out.2.2.2 _ _ hOM)).only (Only.set (w := w9) (S := fun q => q = gC) gC j y0 rfl) HGN.out.1 HGN.out.2.1 HGN.out.2.2.1 HGN.out.2.2.2
                    · exact (HO4.out.trans ((Only.of_grown hg9).mono fun q _ e => .inr (.inr (hOM.ge q e)))).trans (Only.set (w := w9) gC j y0 (.inr (.inr (HC4.out.ges _ (List.mem_cons_of_mem _ List.mem_cons_self) gC rfl))))
                  clear HC4 HM4 HO4 HB4 HVJ HLE HGN HLJ
                  have hJ0 : (∀ i, (fun _ : Nat => false) i = true → R49_23 gC comps1.length cC1 j aj lj.length cj s x i (((fun n => [u117, u118, u119, u120, u121, u122, u123, u124, u125, u126].getD n undef) : Nat → Value) i)) ∧ JA wc w.heap.size gC j (.slice aj lj.length cj) lj (s, x) (fun _ => false) ((fun n => [u117, u118, u119, u120, u121, u122, u123, u124, u125, u126].getD n undef) : Nat → Value) wc.drew := ⟨fun i hi => (nomatch hi), ⟨fun _ => Below.drew (Below.refl _ _), fun e => (nomatch e), fun e => (nomatch e), fun e => (nomatch e)⟩⟩
                  have HJ0 := Lib.hid hJ0
                  clear hJ0
                  refine region_inv hmx (fun S vs W => (∀ i, S i = true → R49_23 gC comps1.length cC1 j aj lj.length cj s x i (vs i)) ∧ JA wc w.heap.size gC j (.slice aj lj.length cj) lj (s, x) S vs W) (fun vs => { tmps := (_ :: _ :: _ :: _ :: _ :: _ :: _ :: _ :: _ :: _ :: _ :: _ :: _ :: _ :: _ :: _ :: _ :: _ :: _ :: _ :: _ :: _ :: _ :: _ :: _ :: _ :: _ :: _ :: _ :: _ :: _ :: _ :: _ :: _ :: _ :: _ :: _ :: _ :: _ :: _ :: _ :: _ :: _ :: _ :: _ :: _ :: _ :: _ :: _ :: _ :: _ :: _ :: _ :: _ :: _ :: _ :: _ :: _ :: _ :: _ :: _ :: _ :: _ :: _ :: _ :: _ :: _ :: _ :: _ :: _ :: _ :: _ :: _ :: _ :: _ :: _ :: _ :: _ :: _ :: _ :: _ :: _ :: _ :: _ :: _ :: _ :: _ :: _ :: _ :: _ :: _ :: _ :: _ :: _ :: _ :: _ :: _ :: _ :: _ :: _ :: _ :: _ :: _ :: _ :: _ :: _ :: _ :: _ :: _ :: _ :: _ :: _ :: _ :: _ :: _ :: _ :: _ :: vs 0 :: vs 1 :: vs 2 :: vs 3 :: vs 4 :: vs 5 :: vs 6 :: vs 7 :: vs 8 :: vs 9 :: _ :: _ :: _ :: []).toArray, defers := _ }) (fun n => [u117, u118, u119, u120, u121, u122, u123, u124, u125, u126].getD n undef) rfl (by kernel_rfl) HJ0.out ?step ?fin
                  case step =>
                    intro ix o ho
                    match ix, ho with
                    | 0, ho =>
                      obtain rfl := Option.some.inj ho
                      intro S vs W K hSi hd hcl hJ hK
                      have HK := Lib.hid hK
                      have HJ := Lib.hid hJ
                      clear hK hd hcl hJ hSi ho
                      dsimp only
                      go_simp
                      have h := HK.out (.slice (some ⟨gC, 0, none⟩) comps1.length cC1) W ⟨(fun i hi => by
                        by_cases e : i = 0
                        · subst e; first | rfl | exact trivial
                        · rw [upS_ne e] at hi
                          have := HJ.out.1 i hi
                          rwa [show upd vs 0 _ i = vs i from if_neg e]), HJ.out.2.keep (by decide) (by decide) (by decide)⟩
                      simp only [upd, Nat.reduceEqDiff, reduceIte] at h
                      exact h
                    | 1, ho =>
                      obtain rfl := Option.some.inj ho
                      intro S vs W K hSi hd hcl hJ hK
                      have HK := Lib.hid hK
                      have HJ := Lib.hid hJ
                      clear hK hd hcl hJ hSi ho
                      dsimp only
                      go_simp
                      have h := HK.out (.int .i64 (j : Int)) W ⟨(fun i hi => by
                        by_cases e : i = 1
                        · subst e; first | rfl | exact trivial
                        · rw [upS_ne e] at hi
                          have := HJ.out.1 i hi
                          rwa [show upd vs 1 _ i = vs i from if_neg e]), HJ.out.2.keep (by decide) (by decide) (by decide)⟩
                      simp only [upd, Nat.reduceEqDiff, reduceIte] at h
                      exact h
                    | 2, ho =>
                      obtain rfl := Option.some.inj ho
                      intro S vs W K hSi hd hcl hJ hK
                      have HK := Lib.hid hK
                      have HJ := Lib.hid hJ
                      clear hK hd hcl hJ hSi ho
                      dsimp only
                      go_simp
                      have h := HK.out (.slice (some ⟨gC, 0, none⟩) comps1.length cC1) W ⟨(fun i hi => by
                        by_cases e : i = 2
                        · subst e; first | rfl | exact trivial
                        · rw [upS_ne e] at hi
                          have := HJ.out.1 i hi
                          rwa [show upd vs 2 _ i = vs i from if_neg e]), HJ.out.2.keep (by decide) (by decide) (by decide)⟩
                      simp only [upd, Nat.reduceEqDiff, reduceIte] at h
                      exact h
                    | 3, ho =>
                      obtain rfl := Option.some.inj ho
                      intro S vs W K hSi hd hcl hJ hK
                      have HK := Lib.hid hK
                      have HJ := Lib.hid hJ
                      clear hK hd hcl hJ hSi ho
                      dsimp only
                      go_simp
                      have h := HK.out (.int .i64 (j : Int)) W ⟨(fun i hi => by
                        by_cases e : i = 3
                        · subst e; first | rfl | exact trivial
                        · rw [upS_ne e] at hi
                          have := HJ.out.1 i hi
                          rwa [show upd vs 3 _ i = vs i from if_neg e]), HJ.out.2.keep (by decide) (by decide) (by decide)⟩
                      simp only [upd, Nat.reduceEqDiff, reduceIte] at h
                      exact h
                    | 4, ho =>
                      obtain rfl := Option.some.inj ho
                      intro S vs W K hSi hd hcl hJ hK
                      have HK := Lib.hid hK
                      have HJ := Lib.hid hJ
                      have e2 : vs 2 = .slice (some ⟨gC, 0, none⟩) comps1.length cC1 := hJ.1 2 (hd 2 (by rfl))
                      have e3 : vs 3 = .int .i64 (j : Int) := hJ.1 3 (hd 3 (by rfl))
                      clear hK hd hcl hJ hSi ho
                      dsimp only
                      go_simp
                      have h := HK.out (.pointer (some ⟨gC, j, none⟩)) W ⟨(fun i hi => by
                        by_cases e : i = 4
                        · subst e; first | rfl | exact trivial
                        · rw [upS_ne e] at hi
                          have := HJ.out.1 i hi
                          rwa [show upd vs 4 _ i = vs i from if_neg e]), HJ.out.2.keep (by decide) (by decide) (by decide)⟩
                      simp only [upd, Nat.reduceEqDiff, reduceIte, e2, e3] at h
                      exact h
                    | 5, ho =>
                      obtain rfl := Option.some.inj ho
                      intro S vs W K hSi hd hcl hJ hK
                      have HK := Lib.hid hK
                      have HJ := Lib.hid hJ
                      have e4 : vs 4 = .pointer (some ⟨gC, j, none⟩) := hJ.1 4 (hd 4 (by rfl))
                      have hW := hJ.2.p0 (by cases e : S 8 <;> first | rfl | exact absurd (hcl 5 8 (by rfl) e) (by rw [hSi]; simp))
                      have c0 := cellB hW k0
                      clear hK hd hcl hJ hSi ho
                      dsimp only
                      go_simp
                      have h := HK.out (.slice aj lj.length cj) W ⟨(fun i hi => by
                        by_cases e : i = 5
                        · subst e; first | rfl | exact trivial
                        · rw [upS_ne e] at hi
                          have := HJ.out.1 i hi
                          rwa [show upd vs 5 _ i = vs i from if_neg e]), HJ.out.2.keep (by decide) (by decide) (by decide)⟩
                      simp only [upd, Nat.reduceEqDiff, reduceIte, e4] at h
                      exact h
                    | 6, ho =>
                      obtain rfl := Option.some.inj ho
                      intro S vs W K hSi hd hcl hJ hK
                      have HK := Lib.hid hK
                      have HJ := Lib.hid hJ
                      have hW := hJ.2.p0 (by cases e : S 8 <;> first | rfl | exact absurd (hcl 6 7 (by rfl) (hcl 7 8 (by rfl) e)) (by rw [hSi]; simp))
                      have c0 := cellB hW b0
                      have c1 := cellB hW b1
                      clear hK hd hcl hJ hSi ho
                      dsimp only
                      go_simp
                      have h := HK.out (.agg #[.int .i64 (s : Int), .int .i64 (x : Int)]) W ⟨(fun i hi => by
                        by_cases e : i = 6
                        · subst e; first | rfl | exact trivial
                        · rw [upS_ne e] at hi
                          have := HJ.out.1 i hi
                          rwa [show upd vs 6 _ i = vs i from if_neg e]), HJ.out.2.keep (by decide) (by decide) (by decide)⟩
                      simp only [upd, Nat.reduceEqDiff, reduceIte] at h
                      exact h
                    | 7, ho =>
                      obtain rfl := Option.some.inj ho
                      intro S vs W K hSi hd hcl hJ hK
                      have HK := Lib.hid hK
                      have HJ := Lib.hid hJ
                      have e6 : vs 6 = .agg #[.int .i64 (s : Int), .int .i64 (x : Int)] := hJ.1 6 (hd 6 (by rfl))
                      have h8 : S 8 = false := by cases e : S 8 <;> first | rfl | exact absurd (hcl 7 8 (by rfl) e) (by rw [hSi]; simp)
                      have h10 : S 10 = false := by cases e : S 10 <;> first | rfl | exact absurd (hcl 8 10 (by rfl) e) (by rw [h8]; simp)
                      have H8 := Lib.hid h8
                      have H10 := Lib.hid h10
                      clear h8 h10
                      clear hK hd hcl hJ hSi ho
                      dsimp only
                      go_simp
                      have h := HK.out (.slice (some ⟨W.heap.size, 0, none⟩) 1 1) (W.alloc (.cells #[.int .i64 (s : Int), .int .i64 (x : Int)] 49)) ⟨(fun i hi => by
                        by_cases e : i = 7
                        · subst e; first | rfl | exact trivial
                        · rw [upS_ne e] at hi
                          have := HJ.out.1 i hi
                          rwa [show upd vs 7 _ i = vs i from if_neg e]), HJ.out.2.elem (y := (s, x)) H8.out H10.out⟩
                      simp only [upd, Nat.reduceEqDiff, reduceIte, e6] at h
                      exact h
                    | 8, ho =>
                      obtain rfl := Option.some.inj ho
                      intro S vs W K hSi hd hcl hJ hK
                      have HK := Lib.hid hK
                      have HJ := Lib.hid hJ
                      have hS7 := hd 7 (by rfl)
                      obtain ⟨u7, hu7, hb7⟩ := hJ.2.p1 hS7 hSi
                      have e5 : vs 5 = .slice aj lj.length cj := hJ.1 5 (hd 5 (by rfl))
                      have h10 : S 10 = false := by cases e : S 10 <;> first | rfl | exact absurd (hcl 8 10 (by rfl) e) (by rw [hSi]; simp)
                      have hW := hJ.2.p0 hSi
                      rw [if_pos (by rfl)]
                      refine wp_app_mvs W _ _ (s, x) (by rfl) w.heap.size (.slice aj lj.length cj) lj (by show vs 5 = _; exact e5) (hOM.below hW) u7 (by show vs 7 = _; exact hu7) hb7 (by omega) (Nat.le_trans hBz hW.size) ?_
                      intro v' w' ho9 hg9 hm9
                      exact hK _ _ ⟨fun i hi => by
                        by_cases e : i = 8
                        · subst e; exact trivial
                        · rw [upS_ne e] at hi
                          have := hJ.1 i hi
                          rwa [show upd vs 8 v' i = vs i from if_neg e], hJ.2.app hSi h10 ho9 hg9 hm9⟩
                    | 9, ho =>
                      obtain rfl := Option.some.inj ho
                      intro S vs W K hSi hd hcl hJ hK
                      have HK := Lib.hid hK
                      have HJ := Lib.hid hJ
                      have e0 : vs 0 = .slice (some ⟨gC, 0, none⟩) comps1.length cC1 := hJ.1 0 (hd 0 (by rfl))
                      have e1 : vs 1 = .int .i64 (j : Int) := hJ.1 1 (hd 1 (by rfl))
                      clear hK hd hcl hJ hSi ho
                      dsimp only
                      go_simp
                      have h := HK.out (.pointer (some ⟨gC, j, none⟩)) W ⟨(fun i hi => by
                        by_cases e : i = 9
                        · subst e; first | rfl | exact trivial
                        · rw [upS_ne e] at hi
                          have := HJ.out.1 i hi
                          rwa [show upd vs 9 _ i = vs i from if_neg e]), HJ.out.2.keep (by decide) (by decide) (by decide)⟩
                      simp only [upd, Nat.reduceEqDiff, reduceIte, e0, e1] at h
                      exact h
                    | 10, ho =>
                      obtain rfl := Option.some.inj ho
                      intro S vs W K hSi hd hcl hJ hK
                      have HK := Lib.hid hK
                      have HJ := Lib.hid hJ
                      have e9 : vs 9 = .pointer (some ⟨gC, j, none⟩) := hJ.1 9 (hd 9 (by rfl))
                      have h8 := hd 8 (by rfl)
                      have HS := Lib.hid (hJ.2.store h8 hSi)
                      obtain ⟨ho9, hg9, hm9⟩ := hJ.2.p2 h8 hSi
                      obtain ⟨ay, cy, v0, hvy, k9, f9, -⟩ := HLAW.out _ _ ho9 hg9 hm9
                      clear h8 ho9 hg9 hm9
                      clear hK hd hcl hJ hSi ho
                      dsimp only
                      go_simp
                      have h := HK.out undef _ ⟨(fun i hi => by
                        by_cases e : i = 10
                        · subst e; first | rfl | exact trivial
                        · rw [upS_ne e] at hi
                          have := HJ.out.1 i hi
                          rwa [show upd vs 10 _ i = vs i from if_neg e]), HS.out⟩
                      simp only [upd, Nat.reduceEqDiff, reduceIte, e9, hvy] at h
                      exact h
                    | q + 11, ho => exact absurd ho (by simp)
                  case fin =>
                    intro S vs W hS hJ
                    obtain ⟨w9, hw9, ho9, hg9, hm9⟩ := hJ.2.p3 (hS 10 (by decide))
                    obtain ⟨ay, cy, v0, hvy, k9, f9, HIN, HM9, HO9⟩ := HLAW.out _ _ ho9 hg9 hm9
                    rw [← hw9] at HIN HM9 HO9
                    clear hS hJ hw9 ho9 hg9 hm9 k9 f9 hvy HJ0 HLAW
                    generalize vs 0 = q23_0 at *
                    generalize vs 1 = q23_1 at *
                    generalize vs 2 = q23_2 at *
                    generalize vs 3 = q23_3 at *
                    generalize vs 4 = q23_4 at *
                    generalize vs 5 = q23_5 at *
                    generalize vs 6 = q23_6 at *
                    generalize vs 7 = q23_7 at *
                    generalize vs 8 = q23_8 at *
                    generalize vs 9 = q23_9 at *
                    clear vs
                    go_wp2
                    go_roundg (l.length - (k + 1))
                    case measure => have := HGK.out; omega
                    case rel => exact ⟨k + 1, ks1, _, os, _, rfl, by go_num, by omega, by rw [List.length_set]; omega, HIN, HG4, HM9, HO9⟩
            · have hpe : F5 .prt t ≠ F5 .prt s := by
                have h : (((F5 .prt t : Nat) : Int) != ((F5 .prt s : Nat) : Int)) = true := HBQ.out
                simp at h; omega
              have HGn : Hid (GInv (F5 .prt) (tgN nx) (l.take (k + 1)) ks comps (os ++ [(s, x)])) := by
                show GInv _ _ _ _ _ _
                rw [HTk.out]
                exact HGr.out.other (by rw [HTT.out]; exact hpe)
              have hos : os.length ≤ 200000 := by
                have h1 := HGr.out.ot
                have h2 := List.length_filter_le (fun m => decide (F5 .prt (tgN nx m) ≠ F5 .prt m.1)) (l.take k)
                rw [← h1, List.length_take] at h2
                omega
              have hOM := HC3.out.o
              have hBz := HO3.out.size
              clear hpe HBQ
              generalize F5 .prt s = c at *
              generalize F5 .prt t = c2 at *
              go_wp2_with (at_builtin; refine app_mv rfl _ _ (s, x) rfl w.heap.size _ os hOM rfl _ (by simp) rfl (by omega) hBz ?_; intro v' w' hown' hg hmv; have HC4 := Lib.hid (HC3.out.oth hown' hg hmv); have HM4 := Lib.hid (HM3.out.only (Only.of_grown hg) (HLT.out.1 _ _ hOM) (HLT.out.2.1 _ _ hOM) (HLT.out.2.2.1 _ _ hOM) (HLT.out.2.2.2 _ _ hOM)); have HO4 := Lib.hid (HO3.out.trans ((Only.of_grown hg).mono fun q _ e => .inr (.inr (hOM.ge q e)))); clear hown' hg hmv hOM)
              go_roundg (l.length - (k + 1))
              case measure => have := HGK.out; omega
              case rel => exact ⟨k + 1, ks, comps, _, _, rfl, by go_num, by omega, by omega, HC4, HGn, HM4, HO4⟩
        · obtain rfl : k = l.length := by omega
          have HF : Hid (SplitOut A w nx num l (.returned (.tuple #[u11, u12])) wr) := by
            have hG := HGr.out
            rw [List.take_length] at hG
            obtain ⟨aZ, cZ, hvz⟩ := ownsRow_slice HCr.out.r
            obtain ⟨gZ, hgZ⟩ := ownsRow_at (hvz ▸ HCr.out.r)
            refine ⟨u11, u12, comps, os, st1, F5, rfl, HMr.out, HST1.out, HOr.out, hG.grp HPT.out, aZ, cZ, gZ, fun j => vals.getD j undef, hvz, hgZ, by omega, fun W' hW => ?_⟩
            have hC := HCr.out.only hW fun q h1 h2 h3 => by omega
            rw [hvz] at hC
            refine hC.cells hgZ ⟨?_, fun j hj => ?_⟩
            · rw [hG.ot]; exact Nat.le_trans (List.length_filter_le _ _) hll
            · rw [hG.cs j (by rw [← hG.ln]; exact hj)]; exact Nat.le_trans (List.length_filter_le _ _) hll
          go_wp2
          go_ret2
          exact HF.out

end Go.Proofs.Ytdkpdpcecjcmcaa
