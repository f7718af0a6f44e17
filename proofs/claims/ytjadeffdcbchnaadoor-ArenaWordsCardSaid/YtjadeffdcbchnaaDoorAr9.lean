/- The iterator behind an input. -/
import Derived.Test.YtjadeffdcbchnaaDoorAr8
namespace Go.Proofs.YtjadeffdcbchnaaDoor
open Go.RowKit Go.Shelf
attribute [local go_sem] Oper.semAt_some

def R9 (Bp Bb b2 off2 n2 cap2 b3 off3 cap3 s v bx ox L cx by' oy cy : Nat) (nv pv : Int) (B : Nat) (ix : Nat) (u : Value) (W : World) : Prop :=
  match ix with
  | 0 => u = .pointer (some ⟨Bb, 0, none⟩)
  | 1 => u = .pointer (some ⟨Bb, 2, none⟩)
  | 2 => u = .slice (some ⟨b2, off2, none⟩) n2 cap2
  | 3 => u = .pointer (some ⟨Bp, 0, none⟩)
  | 4 => u = .int .i64 (s : Int)
  | 5 => u = .pointer (some ⟨b2, off2 + s, none⟩)
  | 6 => u = .slice (some ⟨bx, ox, none⟩) L cx
  | 7 => u = .int .i64 (v : Int)
  | 8 => u = .pointer (some ⟨bx, ox + v, none⟩)
  | 9 => u = .int .i64 nv
  | 10 => u = .pointer (some ⟨Bb, 0, none⟩)
  | 11 => u = .pointer (some ⟨Bb, 3, none⟩)
  | 12 => u = .slice (some ⟨b3, off3, none⟩) n2 cap3
  | 13 => u = .pointer (some ⟨Bp, 0, none⟩)
  | 14 => u = .int .i64 (s : Int)
  | 15 => u = .pointer (some ⟨b3, off3 + s, none⟩)
  | 16 => u = .slice (some ⟨by', oy, none⟩) L cy
  | 17 => u = .int .i64 (v : Int)
  | 18 => u = .pointer (some ⟨by', oy + v, none⟩)
  | 19 => u = .int .i64 pv
  | 20 => u = .agg #[.int .i64 nv, .int .i64 (-1), .int .i64 pv]
  | 21 => ∃ z, u = .pointer (some ⟨z, 0, none⟩) ∧ B ≤ z ∧ W.heap[z]? = some (.cells #[.int .i64 0, .int .i64 0, .int .i64 0] 48 (0, 0))
  | _ => True
theorem R9.mono (Bp Bb b2 off2 n2 cap2 b3 off3 cap3 s v bx ox L cx by' oy cy : Nat) (nv pv : Int) (B : Nat) (ix : Nat) (u : Value) (W W' : World) (h : R9 Bp Bb b2 off2 n2 cap2 b3 off3 cap3 s v bx ox L cx by' oy cy nv pv B ix u W) (hb : Below W.heap.size W W') : R9 Bp Bb b2 off2 n2 cap2 b3 off3 cap3 s v bx ox L cx by' oy cy nv pv B ix u W' := by
  unfold R9 at *
  split at h <;> first | exact h | (obtain ⟨o, h1, h2, h3⟩ := h; exact ⟨o, h1, h2, (hb.block o (Array.getElem?_eq_some_iff.1 h3).1).trans h3⟩)

/-- The cells that the region reads. -/
structure F9 (Bp Bb b2 off2 n2 cap2 b3 off3 cap3 s v bx ox L cx by' oy cy : Nat) (nv pv : Int) (W : World) : Prop where
  c2 : W.cell? ⟨Bb, 2, none⟩ = some (.slice (some ⟨b2, off2, none⟩) n2 cap2)
  c3 : W.cell? ⟨Bb, 3, none⟩ = some (.slice (some ⟨b3, off3, none⟩) n2 cap3)
  c0 : W.cell? ⟨Bp, 0, none⟩ = some (.int .i64 (s : Int))
  cx : W.cell? ⟨b2, off2 + s, none⟩ = some (.slice (some ⟨bx, ox, none⟩) L cx)
  cy : W.cell? ⟨b3, off3 + s, none⟩ = some (.slice (some ⟨by', oy, none⟩) L cy)
  cn : W.cell? ⟨bx, ox + v, none⟩ = some (.int .i64 nv)
  cp : W.cell? ⟨by', oy + v, none⟩ = some (.int .i64 pv)
theorem F9.below {Bp Bb b2 off2 n2 cap2 b3 off3 cap3 s v bx ox L cx by' oy cy : Nat} {nv pv : Int} {W W' : World} (h : F9 Bp Bb b2 off2 n2 cap2 b3 off3 cap3 s v bx ox L cx by' oy cy nv pv W) (hb : Below W.heap.size W W') : F9 Bp Bb b2 off2 n2 cap2 b3 off3 cap3 s v bx ox L cx by' oy cy nv pv W' :=
  ⟨cellB hb h.c2, cellB hb h.c3, cellB hb h.c0, cellB hb h.cx, cellB hb h.cy, cellB hb h.cn, cellB hb h.cp⟩

set_option maxRecDepth 100000 in
set_option maxHeartbeats 4000000 in
theorem next1_bound (F : Fence) (n : Nat) (h7 : F.fn 66) (hro : F.round = none) (hn : 1 ≤ n) (lY Bp Bb : Nat) (w0 : World) (a : Au) (T : List (List Int)) (y : Pl) (S : List Pl) (hS : S = succPl a T y) (hy : 0 ≤ y.inn ∧ y.inn < T.length) (hst : 0 ≤ y.st ∧ y.st < a.next.length) (hpl : a.prio.length = a.next.length)
    (hL : (a.next.getD y.st.toNat []).length = (a.prio.getD y.st.toNat []).length) (hr : ∀ v ∈ T.getD y.inn.toNat [], 0 ≤ v ∧ v < (a.next.getD y.st.toNat []).length) (hT64 : (T.getD y.inn.toNat []).length ≤ 64)
    (Lt St tp : Int) (ao2 ao3 aot : Option Addr) (cap2 cap3 capt : Nat) (J Jx : List (Fin S.length) → World → Prop) (hJA : ∀ pre W W', J pre W → Below W.heap.size W W' → J pre W')
    (hY : ∀ pre x W, J pre W → pre.length < S.length → YieldAt F (n - 1) Tryd.prog lY (encP S x) W fun e W' =>
      (e = .returned (.bool true) ∧ J (pre ++ [x]) W' ∧ KpN w0.heap.size Bp Bb W W') ∨ (e = .returned (.bool false) ∧ Jx (pre ++ [x]) W'))
    (W : World) (hW0 : Below w0.heap.size w0 W) (hBp : W.heap[Bp]? = some (.cells (plC y) 48 (0, 0))) (hBb : W.heap[Bb]? = some (.cells #[.int .i64 Lt, .int .i64 St, .slice ao2 a.next.length cap2, .slice ao3 a.next.length cap3, .int .i64 tp, .slice aot T.length capt] 70 (0, 0)))
    (hN : IsRows w0 (.slice ao2 a.next.length cap2) a.next) (hP : IsRows w0 (.slice ao3 a.next.length cap3) a.prio) (hT : IsRows w0 (.slice aot T.length capt) T) (h0 : J [] W) :
    CallsIn F n Tryd.prog 66 #[.func (.yield lY) #[] #[], .pointer (some ⟨Bp, 0, none⟩), .pointer (some ⟨Bb, 0, none⟩)] W fun e W' => (∃ v, e = .returned v) ∧
      ((∃ ys, ys = allF S.length ∧ J ys W') ∨ (∃ pre, (∃ k, k ≤ S.length ∧ pre = (allF S.length).take k) ∧ Jx pre W')) := by
  have hmx : Tryd.prog.follows .mixedOrders = true := by kernel_rfl
  obtain ⟨V2, ⟨ao2', cap2', b2, off2, e2, g2⟩, hr2⟩ := hN
  obtain ⟨V3, ⟨ao3', cap3', b3, off3, e3, g3⟩, hr3⟩ := hP
  obtain ⟨VT, ⟨aot', capt', bt, offt, et, gt⟩, hrt⟩ := hT
  simp only [Value.slice.injEq] at e2 e3 et
  obtain ⟨rfl, -, rfl⟩ := e2
  obtain ⟨rfl, -, rfl⟩ := e3
  obtain ⟨rfl, -, rfl⟩ := et
  have hny : ¬ y.inn < 0 := by omega
  have hlen : S.length = (T.getD y.inn.toNat []).length := by rw [hS, succPl, if_neg hny, List.length_map]
  have HE : Hid (∀ k (h : k < S.length), encP S ⟨k, h⟩ = #[.agg #[.int .i64 ((a.next.getD y.st.toNat []).getD ((T.getD y.inn.toNat []).getD k 0).toNat 0), .int .i64 (-1), .int .i64 ((a.prio.getD y.st.toNat []).getD ((T.getD y.inn.toNat []).getD k 0).toNat 0)]]) := fun k h => by
    rw [getD_lt (T.getD y.inn.toNat []) _ _ (show k < _ from hlen ▸ h)]
    subst hS
    simp only [encP, plV, succPl]
    simp [hny]
  have HBP : Hid (∀ W' : World, W'.heap[Bp]? = W.heap[Bp]? → W'.cell? ⟨Bp, 0, none⟩ = some (.int .i64 y.st)) := fun W' h => cell_of_row W' Bp 0 _ _ _ (h.trans hBp)
  have HBB : Hid (∀ W' : World, W'.heap[Bb]? = W.heap[Bb]? → W'.cell? ⟨Bb, 2, none⟩ = some (.slice ao2 a.next.length cap2) ∧ W'.cell? ⟨Bb, 3, none⟩ = some (.slice ao3 a.next.length cap3)) := fun W' h => ⟨cell_of_row W' Bb 2 _ _ _ (h.trans hBb), cell_of_row W' Bb 3 _ _ _ (h.trans hBb)⟩
  have p1 : W.cell? ⟨Bp, 1, none⟩ = some (.int .i64 y.inn) := cell_of_row _ _ 1 _ _ _ hBp
  have b5 : W.cell? ⟨Bb, 5, none⟩ = some (.slice aot T.length capt) := cell_of_row _ _ 5 _ _ _ hBb
  have hBpl := (Array.getElem?_eq_some_iff.1 hBp).1
  have hBbl := (Array.getElem?_eq_some_iff.1 hBb).1
  obtain ⟨i, hi⟩ := Int.eq_ofNat_of_zero_le hy.1
  obtain ⟨s, hs⟩ := Int.eq_ofNat_of_zero_le hst.1
  rw [hi] at hny p1 hy HE hr hT64 hlen
  rw [hs] at hst HE hL hr HBP
  simp only [Int.toNat_natCast] at HE hL hr hT64 hlen
  have hiT : i < T.length := by omega
  have hsN : s < a.next.length := by omega
  obtain rfl := gt.ad (by omega)
  obtain rfl := g2.ad (by omega)
  obtain rfl := g3.ad (by omega)
  obtain ⟨⟨aor, cr, br, fr, hvr, gr⟩, hrr⟩ := hrt i hiT
  obtain ⟨⟨aox, cx, bx, ox, hvx, gx⟩, -⟩ := hr2 s hsN
  obtain ⟨⟨aoy, cy, by', oy, hvy, gy⟩, -⟩ := hr3 s (by omega)
  have ct : W.cell? ⟨bt, offt + i, none⟩ = some (VT i) := cellB hW0 (gt.el i hiT)
  have k2 := g2.el s hsN
  have k3 := g3.el s (by omega)
  rw [hvr] at ct
  rw [hvx] at k2
  rw [hvy] at k3
  rw [← hL] at k3 gy
  clear hL
  have HK2 := Lib.hid k2
  have HK3 := Lib.hid k3
  have HGR := Lib.hid gr
  have HGX := Lib.hid gx
  have HGY := Lib.hid gy
  have HRV := Lib.hid hr
  have e3 : decide ((i : Int) < 0) = false := by simp
  generalize hrow : T.getD i [] = row at *
  generalize a.next.getD s [] = rx at *
  generalize a.prio.getD s [] = ry at *
  generalize rx.length = L at *
  generalize a.next.length = n2 at *
  have hnb := gt.nb
  have hTi : (i : Int) < (T.length : Int) := by omega
  clear hr k2 k3 hvr hvx hvy hrr gr gx gy hS hBp hBb hr2 hr3 hrt g2 g3 gt hi hs hrow
  generalize T.length = nt at *
  refine callsIn_of_wp Tryd.func66 rfl h7 ?_ hro
  simp only [Tryd.ntmps66, List.size_toArray, List.length_cons, List.length_nil, Nat.reduceAdd, Nat.reduceSub, Array.replicate_succ, Array.replicate_zero, List.push_toArray, List.append_toArray, List.nil_append, List.cons_append]
  gi_wp2
  clear ct p1 b5
  gi_loopw [32] (fun i wr => ∃ k : Nat, k ≤ row.length ∧ i = .int .i64 k ∧ J ((allF S.length).take k) wr ∧ KpN w0.heap.size Bp Bb W wr)
    (fun i _ => row.length - (intOf i).toNat)
  case atStart => exact ⟨0, Nat.zero_le _, rfl, h0, KpN.refl _ _ _ _⟩
  case round =>
    obtain ⟨k, hk, rfl, hJs, hnx⟩ := hrel
    by_cases hlt : k < row.length
    · have hltS : k < S.length := by omega
      have hB0 := hW0.trans hnx.1
      obtain rfl := HGR.out.ad (by omega)
      have cr0 := cellB hB0 (HGR.out.el k hlt)
      unfold ivF at cr0
      obtain ⟨v, hv⟩ := Int.eq_ofNat_of_zero_le (HRV.out (row.getD k 0) (by rw [getD_lt _ _ _ hlt]; exact List.getElem_mem hlt)).1
      have hvL : v < L := by have := (HRV.out (row.getD k 0) (by rw [getD_lt _ _ _ hlt]; exact List.getElem_mem hlt)).2; omega
      have HEk := Lib.hid (HE.out k hltS)
      rw [hv] at cr0
      have HV := Lib.hid hv
      clear hv
      obtain rfl := HGX.out.ad (by omega)
      obtain rfl := HGY.out.ad (by omega)
      have hF : F9 Bp Bb b2 off2 n2 cap2 b3 off3 cap3 s v bx ox L cx by' oy cy (rx.getD v 0) (ry.getD v 0) wr := ⟨(HBB.out wr hnx.2.2).1, (HBB.out wr hnx.2.2).2, HBP.out wr hnx.2.1, cellB hB0 HK2.out, cellB hB0 (by first | exact HK3.out | (rw [hL]; exact HK3.out)), cellB hB0 (HGX.out.el v hvL), cellB hB0 (HGY.out.el v (by omega))⟩
      have hEk := HE.out k hltS
      rw [HV.out] at hEk
      simp only [Int.toNat_natCast] at hEk
      generalize rx.getD v 0 = nv at *
      generalize ry.getD v 0 = pv at *
      have HEk := Lib.hid hEk
      have HF : Hid (∀ W', Below wr.drew.heap.size wr.drew W' → F9 Bp Bb b2 off2 n2 cap2 b3 off3 cap3 s v bx ox L cx by' oy cy nv pv W') := fun W' h => hF.below ((Below.drew (B := wr.heap.size) (Below.refl _ _)).trans h)
      clear hF hEk
      gi_wp2
      clear cr0
      refine region_lastIn hmx (R9 Bp Bb b2 off2 n2 cap2 b3 off3 cap3 s v bx ox L cx by' oy cy nv pv wr.heap.size) (fun vs => { tmps := (_ :: _ :: _ :: _ :: _ :: _ :: _ :: vs 21 :: _ :: _ :: _ :: _ :: _ :: _ :: _ :: _ :: _ :: _ :: _ :: _ :: _ :: _ :: _ :: _ :: _ :: _ :: _ :: _ :: _ :: _ :: _ :: _ :: _ :: _ :: _ :: _ :: vs 0 :: vs 1 :: vs 2 :: vs 3 :: vs 4 :: vs 5 :: vs 6 :: vs 7 :: vs 8 :: vs 9 :: vs 10 :: vs 11 :: vs 12 :: vs 13 :: vs 14 :: vs 15 :: vs 16 :: vs 17 :: vs 18 :: vs 19 :: vs 20 :: _ :: _ :: _ :: _ :: _ :: []).toArray, defers := [] }) (fun n => [u36, u37, u38, u39, u40, u41, u42, u43, u44, u45, u46, u47, u48, u49, u50, u51, u52, u53, u54, u55, u56, u7].getD n undef) 22 rfl (by kernel_rfl) (by kernel_rfl) (R9.mono Bp Bb b2 off2 n2 cap2 b3 off3 cap3 s v bx ox L cx by' oy cy nv pv wr.heap.size) ?step ?last
      case step =>
        intro ix o hlt ho
        match ix, hlt, ho with
        | 0, hlt, ho =>
          obtain rfl := Option.some.inj ho
          intro vs W K hB hD hK
          have HK := Lib.hid hK
          clear hK hD ho hlt
          dsimp only
          go_simp
          have h := HK.out _ _ (Below.refl _ _) rfl
          simp only [upd, Nat.reduceEqDiff, reduceIte] at h
          exact h
        | 1, hlt, ho =>
          obtain rfl := Option.some.inj ho
          intro vs W K hB hD hK
          have HK := Lib.hid hK
          have e0 : vs 0 = .pointer (some ⟨Bb, 0, none⟩) := dep_of hD 0 (by rfl)
          clear hK hD ho hlt
          dsimp only
          go_simp
          have h := HK.out _ _ (Below.refl _ _) rfl
          simp only [upd, Nat.reduceEqDiff, reduceIte, e0] at h
          exact h
        | 2, hlt, ho =>
          obtain rfl := Option.some.inj ho
          intro vs W K hB hD hK
          have HK := Lib.hid hK
          have e1 : vs 1 = .pointer (some ⟨Bb, 2, none⟩) := dep_of hD 1 (by rfl)
          have c1 := (HF.out W hB).c2
          clear hK hD ho hlt
          dsimp only
          go_simp
          have h := HK.out _ _ (Below.refl _ _) rfl
          simp only [upd, Nat.reduceEqDiff, reduceIte, e1] at h
          exact h
        | 3, hlt, ho =>
          obtain rfl := Option.some.inj ho
          intro vs W K hB hD hK
          have HK := Lib.hid hK
          clear hK hD ho hlt
          dsimp only
          go_simp
          have h := HK.out _ _ (Below.refl _ _) rfl
          simp only [upd, Nat.reduceEqDiff, reduceIte] at h
          exact h
        | 4, hlt, ho =>
          obtain rfl := Option.some.inj ho
          intro vs W K hB hD hK
          have HK := Lib.hid hK
          have e3 : vs 3 = .pointer (some ⟨Bp, 0, none⟩) := dep_of hD 3 (by rfl)
          have c1 := (HF.out W hB).c0
          clear hK hD ho hlt
          dsimp only
          go_simp
          have h := HK.out _ _ (Below.refl _ _) rfl
          simp only [upd, Nat.reduceEqDiff, reduceIte, e3] at h
          exact h
        | 5, hlt, ho =>
          obtain rfl := Option.some.inj ho
          intro vs W K hB hD hK
          have HK := Lib.hid hK
          have e2 : vs 2 = .slice (some ⟨b2, off2, none⟩) n2 cap2 := dep_of hD 2 (by rfl)
          have e4 : vs 4 = .int .i64 (s : Int) := dep_of hD 4 (by rfl)
          clear hK hD ho hlt
          dsimp only
          go_simp
          have h := HK.out _ _ (Below.refl _ _) rfl
          simp only [upd, Nat.reduceEqDiff, reduceIte, e2, e4] at h
          exact h
        | 6, hlt, ho =>
          obtain rfl := Option.some.inj ho
          intro vs W K hB hD hK
          have HK := Lib.hid hK
          have e5 : vs 5 = .pointer (some ⟨b2, off2 + s, none⟩) := dep_of hD 5 (by rfl)
          have c1 := (HF.out W hB).cx
          clear hK hD ho hlt
          dsimp only
          go_simp
          have h := HK.out _ _ (Below.refl _ _) rfl
          simp only [upd, Nat.reduceEqDiff, reduceIte, e5] at h
          exact h
        | 7, hlt, ho =>
          obtain rfl := Option.some.inj ho
          intro vs W K hB hD hK
          have HK := Lib.hid hK
          clear hK hD ho hlt
          dsimp only
          go_simp
          have h := HK.out _ _ (Below.refl _ _) rfl
          simp only [upd, Nat.reduceEqDiff, reduceIte] at h
          exact h
        | 8, hlt, ho =>
          obtain rfl := Option.some.inj ho
          intro vs W K hB hD hK
          have HK := Lib.hid hK
          have e6 : vs 6 = .slice (some ⟨bx, ox, none⟩) L cx := dep_of hD 6 (by rfl)
          have e7 : vs 7 = .int .i64 (v : Int) := dep_of hD 7 (by rfl)
          clear hK hD ho hlt
          dsimp only
          go_simp
          have h := HK.out _ _ (Below.refl _ _) rfl
          simp only [upd, Nat.reduceEqDiff, reduceIte, e6, e7] at h
          exact h
        | 9, hlt, ho =>
          obtain rfl := Option.some.inj ho
          intro vs W K hB hD hK
          have HK := Lib.hid hK
          have e8 : vs 8 = .pointer (some ⟨bx, ox + v, none⟩) := dep_of hD 8 (by rfl)
          have c1 := (HF.out W hB).cn
          clear hK hD ho hlt
          dsimp only
          go_simp
          have h := HK.out _ _ (Below.refl _ _) rfl
          simp only [upd, Nat.reduceEqDiff, reduceIte, e8] at h
          exact h
        | 10, hlt, ho =>
          obtain rfl := Option.some.inj ho
          intro vs W K hB hD hK
          have HK := Lib.hid hK
          clear hK hD ho hlt
          dsimp only
          go_simp
          have h := HK.out _ _ (Below.refl _ _) rfl
          simp only [upd, Nat.reduceEqDiff, reduceIte] at h
          exact h
        | 11, hlt, ho =>
          obtain rfl := Option.some.inj ho
          intro vs W K hB hD hK
          have HK := Lib.hid hK
          have e10 : vs 10 = .pointer (some ⟨Bb, 0, none⟩) := dep_of hD 10 (by rfl)
          clear hK hD ho hlt
          dsimp only
          go_simp
          have h := HK.out _ _ (Below.refl _ _) rfl
          simp only [upd, Nat.reduceEqDiff, reduceIte, e10] at h
          exact h
        | 12, hlt, ho =>
          obtain rfl := Option.some.inj ho
          intro vs W K hB hD hK
          have HK := Lib.hid hK
          have e11 : vs 11 = .pointer (some ⟨Bb, 3, none⟩) := dep_of hD 11 (by rfl)
          have c1 := (HF.out W hB).c3
          clear hK hD ho hlt
          dsimp only
          go_simp
          have h := HK.out _ _ (Below.refl _ _) rfl
          simp only [upd, Nat.reduceEqDiff, reduceIte, e11] at h
          exact h
        | 13, hlt, ho =>
          obtain rfl := Option.some.inj ho
          intro vs W K hB hD hK
          have HK := Lib.hid hK
          clear hK hD ho hlt
          dsimp only
          go_simp
          have h := HK.out _ _ (Below.refl _ _) rfl
          simp only [upd, Nat.reduceEqDiff, reduceIte] at h
          exact h
        | 14, hlt, ho =>
          obtain rfl := Option.some.inj ho
          intro vs W K hB hD hK
          have HK := Lib.hid hK
          have e13 : vs 13 = .pointer (some ⟨Bp, 0, none⟩) := dep_of hD 13 (by rfl)
          have c1 := (HF.out W hB).c0
          clear hK hD ho hlt
          dsimp only
          go_simp
          have h := HK.out _ _ (Below.refl _ _) rfl
          simp only [upd, Nat.reduceEqDiff, reduceIte, e13] at h
          exact h
        | 15, hlt, ho =>
          obtain rfl := Option.some.inj ho
          intro vs W K hB hD hK
          have HK := Lib.hid hK
          have e12 : vs 12 = .slice (some ⟨b3, off3, none⟩) n2 cap3 := dep_of hD 12 (by rfl)
          have e14 : vs 14 = .int .i64 (s : Int) := dep_of hD 14 (by rfl)
          clear hK hD ho hlt
          dsimp only
          go_simp
          have h := HK.out _ _ (Below.refl _ _) rfl
          simp only [upd, Nat.reduceEqDiff, reduceIte, e12, e14] at h
          exact h
        | 16, hlt, ho =>
          obtain rfl := Option.some.inj ho
          intro vs W K hB hD hK
          have HK := Lib.hid hK
          have e15 : vs 15 = .pointer (some ⟨b3, off3 + s, none⟩) := dep_of hD 15 (by rfl)
          have c1 := (HF.out W hB).cy
          clear hK hD ho hlt
          dsimp only
          go_simp
          have h := HK.out _ _ (Below.refl _ _) rfl
          simp only [upd, Nat.reduceEqDiff, reduceIte, e15] at h
          exact h
        | 17, hlt, ho =>
          obtain rfl := Option.some.inj ho
          intro vs W K hB hD hK
          have HK := Lib.hid hK
          clear hK hD ho hlt
          dsimp only
          go_simp
          have h := HK.out _ _ (Below.refl _ _) rfl
          simp only [upd, Nat.reduceEqDiff, reduceIte] at h
          exact h
        | 18, hlt, ho =>
          obtain rfl := Option.some.inj ho
          intro vs W K hB hD hK
          have HK := Lib.hid hK
          have e16 : vs 16 = .slice (some ⟨by', oy, none⟩) L cy := dep_of hD 16 (by rfl)
          have e17 : vs 17 = .int .i64 (v : Int) := dep_of hD 17 (by rfl)
          clear hK hD ho hlt
          dsimp only
          go_simp
          have h := HK.out _ _ (Below.refl _ _) rfl
          simp only [upd, Nat.reduceEqDiff, reduceIte, e16, e17] at h
          exact h
        | 19, hlt, ho =>
          obtain rfl := Option.some.inj ho
          intro vs W K hB hD hK
          have HK := Lib.hid hK
          have e18 : vs 18 = .pointer (some ⟨by', oy + v, none⟩) := dep_of hD 18 (by rfl)
          have c1 := (HF.out W hB).cp
          clear hK hD ho hlt
          dsimp only
          go_simp
          have h := HK.out _ _ (Below.refl _ _) rfl
          simp only [upd, Nat.reduceEqDiff, reduceIte, e18] at h
          exact h
        | 20, hlt, ho =>
          obtain rfl := Option.some.inj ho
          intro vs W K hB hD hK
          have HK := Lib.hid hK
          have e9 : vs 9 = .int .i64 nv := dep_of hD 9 (by rfl)
          have e19 : vs 19 = .int .i64 pv := dep_of hD 19 (by rfl)
          clear hK hD ho hlt
          dsimp only
          go_simp
          have h := HK.out _ _ (Below.refl _ _) rfl
          simp only [upd, Nat.reduceEqDiff, reduceIte, e9, e19] at h
          exact h
        | 21, hlt, ho =>
          obtain rfl := Option.some.inj ho
          intro vs W K hB hD hK
          have HK := Lib.hid hK
          clear hK hD ho hlt
          dsimp only
          go_simp
          have h := HK.out _ _ (bel_box _) ⟨_, rfl, hB.size, heap_alloc_new _ _⟩
          simp only [upd, Nat.reduceEqDiff, reduceIte] at h
          exact h
        | q + 22, hlt, ho => omega
      case last =>
        intro o ho
        obtain rfl := Option.some.inj ho
        intro vs W1 K hB hall hK
        have HK := Lib.hid hK
        have e20 : vs 20 = .agg #[.int .i64 nv, .int .i64 (-1), .int .i64 pv] := hall 20 (by omega)
        obtain ⟨z, e21, hz, hzh⟩ : ∃ z, vs 21 = .pointer (some ⟨z, 0, none⟩) ∧ wr.heap.size ≤ z ∧ W1.heap[z]? = some (.cells #[.int .i64 0, .int .i64 0, .int .i64 0] 48 (0, 0)) := hall 21 (by omega)
        have c0 := cell_of_row _ _ 0 _ _ _ hzh
        have c1 := cell_of_row _ _ 1 _ _ _ hzh
        have c2 := cell_of_row _ _ 2 _ _ _ hzh
        have f0 := frozen_of_row _ _ 0 _ _ hzh
        have f1 := frozen_of_row _ _ 1 _ _ hzh
        have f2 := frozen_of_row _ _ 2 _ _ hzh
        have S3 := three_set (a := .int .i64 nv) (b := .int .i64 (-1)) (c := .int .i64 pv) hzh
        have B3 : Below wr.heap.size wr (((W1.setCell ⟨z, 0, none⟩ (.int .i64 nv)).setCell ⟨z, 1, none⟩ (.int .i64 (-1))).setCell ⟨z, 2, none⟩ (.int .i64 pv)) := ((((Below.drew (B := wr.heap.size) (Below.refl _ _)).trans hB).setCell (p := ⟨z, 0, none⟩) hz _).setCell (p := ⟨z, 1, none⟩) hz _).setCell (p := ⟨z, 2, none⟩) hz _
        have HS3 := Lib.hid S3
        have HB3 := Lib.hid B3
        clear hK hall ho hzh S3 B3
        dsimp only
        go_simp
        refine HK.out _ _ ?_
        clear c0 c1 c2 f0 f1 f2
        generalize (((W1.setCell ⟨z, 0, none⟩ (.int .i64 nv)).setCell ⟨z, 1, none⟩ (.int .i64 (-1))).setCell ⟨z, 2, none⟩ (.int .i64 pv)) = w3 at *
        have c0 : w3.cell? ⟨z, 0, none⟩ = some (.int .i64 nv) := cell_of_row _ _ 0 _ _ _ HS3.out
        have c1 : w3.cell? ⟨z, 1, none⟩ = some (.int .i64 (-1)) := cell_of_row _ _ 1 _ _ _ HS3.out
        have c2 : w3.cell? ⟨z, 2, none⟩ = some (.int .i64 pv) := cell_of_row _ _ 2 _ _ _ HS3.out
        obtain ⟨fn, tmps, assign, body, hy', hR⟩ := hY _ ⟨k, hltS⟩ w3 (hJA _ _ _ hJs HB3.out) (by rw [List.length_take, allF_len]; omega)
        rw [HEk.out] at hy'
        have hk3 := hnx.trans (KpN.of_below HB3.out (Nat.le_trans hW0.size hnx.1.size) (Nat.lt_of_lt_of_le hBpl hnx.1.size) (Nat.lt_of_lt_of_le hBbl hnx.1.size))
        gi_wp2
        refine hR.mono ?_
        rintro e W4 (⟨rfl, hJ4, hk4⟩ | ⟨rfl, hJx4⟩)
        · have hk5 := hk3.trans hk4
          gi_wp2
          go_roundw
          case rel => exact ⟨k + 1, by omega, by go_num, by rw [allF_take hltS]; exact hJ4, hk5⟩
          case measure => simp [intOf]; omega
        · gi_wp2
          refine bodyPost_ret (results_none rfl _ _ _) rfl ?_
          exact ⟨⟨_, rfl⟩, .inr ⟨_, ⟨k + 1, by omega, (allF_take hltS).symm⟩, hJx4⟩⟩
    · obtain rfl : k = row.length := by omega
      gi_wp2
      go_end0
      exact ⟨⟨_, rfl⟩, .inl ⟨_, rfl, by rw [List.take_of_length_le (by rw [allF_len]; omega)] at hJs; exact hJs⟩⟩

end Go.Proofs.YtjadeffdcbchnaaDoor
