/- The law ReduceMatchesReference: its walk. -/
import Derived.Test.YtdkpdpcecjcmcaaQRdH2
import Derived.Test.YtdkpdpcecjcmcaaQRd30
import Derived.Test.YtdkpdpcecjcmcaaQRd46
namespace Go.Proofs.Ytdkpdpcecjcmcaa
open Go.RowKit

theorem reduce_val {a : Au} {k : Nat} (hA : AuV a k) : validA (reduceF a) = true := by
  have h1 := hA.trim
  have h2 := h1.merge
  have h3 := h2.prios
  have h4 := h3.merge
  unfold reduceF
  simp only [trimF, mergeF, priosF, if_pos hA.valid, if_pos h1.valid, if_pos h2.valid, if_pos h3.valid, if_pos h4.valid]
  exact h4.trim.valid
def RL1 (a t p m d : Au) (p2 p3 at2 at3 ap2 ap3 am2 am3 ad2 ad3 : Option Addr) (q2 q3 bt2 bt3 bp2 bp3 bm2 bm3 bd2 bd3 : Nat) (ix : Nat) (u : Value) (W : World) : Prop :=
  match ix with
  | 0 => u = .bool true
  | 1 => u = .bool true
  | 2 => u = .agg #[.int .i64 t.letters, .int .i64 t.start, .slice at2 t.next.length bt2, .slice at3 t.prio.length bt3]
  | 3 => u = .agg #[.int .i64 a.letters, .int .i64 a.start, .slice p2 a.next.length q2, .slice p3 a.prio.length q3]
  | 4 => IsAuto W u t
  | 5 => u = .bool true
  | 6 => u = .bool true
  | 7 => u = .bool true
  | 8 => u = .agg #[.int .i64 p.letters, .int .i64 p.start, .slice ap2 p.next.length bp2, .slice ap3 p.prio.length bp3]
  | 9 => u = .agg #[.int .i64 a.letters, .int .i64 a.start, .slice p2 a.next.length q2, .slice p3 a.prio.length q3]
  | 10 => IsAuto W u p
  | 11 => u = .bool true
  | 12 => u = .bool true
  | 13 => u = .bool true
  | 14 => u = .agg #[.int .i64 m.letters, .int .i64 m.start, .slice am2 m.next.length bm2, .slice am3 m.prio.length bm3]
  | 15 => u = .agg #[.int .i64 a.letters, .int .i64 a.start, .slice p2 a.next.length q2, .slice p3 a.prio.length q3]
  | 16 => IsAuto W u m
  | 17 => u = .bool true
  | 18 => u = .bool true
  | 19 => u = .bool true
  | 20 => u = .agg #[.int .i64 d.letters, .int .i64 d.start, .slice ad2 d.next.length bd2, .slice ad3 d.prio.length bd3]
  | 21 => u = .agg #[.int .i64 a.letters, .int .i64 a.start, .slice p2 a.next.length q2, .slice p3 a.prio.length q3]
  | 22 => IsAuto W u d
  | 23 => u = .bool true
  | 24 => u = .bool true
  | 25 => u = .bool true
  | 26 => u = .bool true
  | 27 => u = .bool true
  | 28 => u = .bool true
  | _ => True
theorem RL1.below {ix : Nat} {u : Value} {W W' : World} {a t p m d : Au} {p2 p3 at2 at3 ap2 ap3 am2 am3 ad2 ad3 : Option Addr} {q2 q3 bt2 bt3 bp2 bp3 bm2 bm3 bd2 bd3 : Nat} (h : RL1 a t p m d p2 p3 at2 at3 ap2 ap3 am2 am3 ad2 ad3 q2 q3 bt2 bt3 bp2 bp3 bm2 bm3 bd2 bd3 ix u W) (hb : Below W.heap.size W W') : RL1 a t p m d p2 p3 at2 at3 ap2 ap3 am2 am3 ad2 ad3 q2 q3 bt2 bt3 bp2 bp3 bm2 bm3 bd2 bd3 ix u W' := by
  unfold RL1 at *
  split at h <;> first | exact h | trivial | exact IsAuto.below h hb

set_option maxRecDepth 100000 in
set_option maxHeartbeats 8000000 in
theorem Match_walk (w : World) (v : Value) (a : Au) (ha : IsAuto w v a) :
    Calls Try.prog 3 #[v] w (Calm (.bool true) w) := by
  have hmx : Try.prog.follows .mixedOrders = true := by kernel_rfl
  obtain ⟨p2, q2, p3, q3, rfl⟩ := ha.shape
  go_enter Try.func3, Try.ntmps3
  go_upto_region 1 with (fail)
  obtain ⟨hx, hb, hB⟩ := box_new (w0 := w) (Below.refl _ _) (Nat.le_refl _) #[.int .i64 a.letters, .int .i64 a.start, .slice p2 a.next.length q2, .slice p3 a.prio.length q3] 24
  replace ha := ha.below hb
  generalize w.alloc (.cells #[.int .i64 a.letters, .int .i64 a.start, .slice p2 a.next.length q2, .slice p3 a.prio.length q3] 24) = w1 at *
  have HE : Hid (∀ W, Below w1.heap.size w1 W → Calm (.bool true) w (.returned (.bool true)) W) := fun W h => ⟨rfl, hB.trans (h.mono hB.size)⟩
  clear hb hB
  generalize w.heap.size = zhx at *
  go_wp2_with fail
  refine (head_c _).mono ?_
  rintro e w2 ⟨rfl, hb⟩
  replace hx := (hb.block _ (Array.getElem?_eq_some_iff.1 hx).1).trans hx
  replace ha := ha.below hb
  have k0 := cell_of_row _ _ 0 _ _ _ hx
  have k1 := cell_of_row _ _ 1 _ _ _ hx
  have k2 := cell_of_row _ _ 2 _ _ _ hx
  have k3 := cell_of_row _ _ 3 _ _ _ hx
  go_wp2_with fail
  refine (Few_c _ _ a ha).mono ?_
  rintro e w3 ⟨rfl, hb3⟩
  replace hx := (hb3.block _ (Array.getElem?_eq_some_iff.1 hx).1).trans hx
  replace ha := ha.below hb3
  replace hb := hb.trans (hb3.mono hb.size)
  clear hb3 k0 k1 k2 k3
  cases hR : fewA a
  · go_wp2_with fail
    go_ret
    exact HE.out _ hb
  have HV : Hid (a.next.length ≤ 14) := by
    simp only [fewA, Bool.and_eq_true, decide_eq_true_eq] at hR
    exact hR.1.1.1.2
  clear hR
  have k0 := cell_of_row _ _ 0 _ _ _ hx
  have k1 := cell_of_row _ _ 1 _ _ _ hx
  have k2 := cell_of_row _ _ 2 _ _ _ hx
  have k3 := cell_of_row _ _ 3 _ _ _ hx
  go_wp2_with fail
  refine (Trim_c _ _ a ha).mono ?_
  rintro e w4 ⟨vht, rfl, hK, hb3⟩
  have ht := hK _ (Only.refl _ _)
  replace hx := (hb3.block _ (Array.getElem?_eq_some_iff.1 hx).1).trans hx
  replace ha := ha.below hb3
  replace hb := hb.trans (hb3.mono hb.size)
  clear hb3 hK k0 k1 k2 k3
  obtain ⟨t, htt⟩ : ∃ t, trimF a = t := ⟨_, rfl⟩
  rw [htt] at ht
  have HTT := Lib.hid htt
  clear htt
  obtain ⟨at2, bt2, at3, bt3, rfl⟩ := ht.shape
  go_upto_region 5 with (fail)
  obtain ⟨xt, hb3, -⟩ := box_new hb hb.size #[.int .i64 t.letters, .int .i64 t.start, .slice at2 t.next.length bt2, .slice at3 t.prio.length bt3] 24
  replace hx := (hb3.block _ (Array.getElem?_eq_some_iff.1 hx).1).trans hx
  replace ha := ha.below hb3
  replace ht := ht.below hb3
  replace hb := hb.trans (hb3.mono hb.size)
  generalize w4.alloc (.cells #[.int .i64 t.letters, .int .i64 t.start, .slice at2 t.next.length bt2, .slice at3 t.prio.length bt3] 24) = w5 at *
  generalize w4.heap.size = zxt at *
  clear hb3
  have HN : a.next.length ≤ 2000 := by have := HV.out; omega
  have k0 := cell_of_row _ _ 0 _ _ _ hx
  have k1 := cell_of_row _ _ 1 _ _ _ hx
  have k2 := cell_of_row _ _ 2 _ _ _ hx
  have k3 := cell_of_row _ _ 3 _ _ _ hx
  go_wp2_with fail
  refine (Prios_c _ _ a ha HN).mono ?_
  rintro e w6 ⟨vhp, rfl, hK, hb3⟩
  have hp := hK _ (Only.refl _ _)
  replace hx := (hb3.block _ (Array.getElem?_eq_some_iff.1 hx).1).trans hx
  replace xt := (hb3.block _ (Array.getElem?_eq_some_iff.1 xt).1).trans xt
  replace ha := ha.below hb3
  replace ht := ht.below hb3
  replace hb := hb.trans (hb3.mono hb.size)
  clear hb3 hK k0 k1 k2 k3 HN
  obtain ⟨p, hpp⟩ : ∃ t, priosF a = t := ⟨_, rfl⟩
  rw [hpp] at hp
  have HPP := Lib.hid hpp
  clear hpp
  obtain ⟨ap2, bp2, ap3, bp3, rfl⟩ := hp.shape
  go_upto_region 6 with (fail)
  obtain ⟨xp, hb3, -⟩ := box_new hb hb.size #[.int .i64 p.letters, .int .i64 p.start, .slice ap2 p.next.length bp2, .slice ap3 p.prio.length bp3] 24
  replace hx := (hb3.block _ (Array.getElem?_eq_some_iff.1 hx).1).trans hx
  replace xt := (hb3.block _ (Array.getElem?_eq_some_iff.1 xt).1).trans xt
  replace ha := ha.below hb3
  replace ht := ht.below hb3
  replace hp := hp.below hb3
  replace hb := hb.trans (hb3.mono hb.size)
  generalize w6.alloc (.cells #[.int .i64 p.letters, .int .i64 p.start, .slice ap2 p.next.length bp2, .slice ap3 p.prio.length bp3] 24) = w7 at *
  generalize w6.heap.size = zxp at *
  clear hb3
  have k0 := cell_of_row _ _ 0 _ _ _ hx
  have k1 := cell_of_row _ _ 1 _ _ _ hx
  have k2 := cell_of_row _ _ 2 _ _ _ hx
  have k3 := cell_of_row _ _ 3 _ _ _ hx
  go_wp2_with fail
  refine (Merge_c _ _ a ha).mono ?_
  rintro e w8 ⟨vhm, rfl, hK, hb3⟩
  have hm := hK _ (Only.refl _ _)
  replace hx := (hb3.block _ (Array.getElem?_eq_some_iff.1 hx).1).trans hx
  replace xt := (hb3.block _ (Array.getElem?_eq_some_iff.1 xt).1).trans xt
  replace xp := (hb3.block _ (Array.getElem?_eq_some_iff.1 xp).1).trans xp
  replace ha := ha.below hb3
  replace ht := ht.below hb3
  replace hp := hp.below hb3
  replace hb := hb.trans (hb3.mono hb.size)
  clear hb3 hK k0 k1 k2 k3
  obtain ⟨m, hmm⟩ : ∃ t, mergeF a = t := ⟨_, rfl⟩
  rw [hmm] at hm
  have HMM := Lib.hid hmm
  clear hmm
  obtain ⟨am2, bm2, am3, bm3, rfl⟩ := hm.shape
  go_upto_region 7 with (fail)
  obtain ⟨xm, hb3, -⟩ := box_new hb hb.size #[.int .i64 m.letters, .int .i64 m.start, .slice am2 m.next.length bm2, .slice am3 m.prio.length bm3] 24
  replace hx := (hb3.block _ (Array.getElem?_eq_some_iff.1 hx).1).trans hx
  replace xt := (hb3.block _ (Array.getElem?_eq_some_iff.1 xt).1).trans xt
  replace xp := (hb3.block _ (Array.getElem?_eq_some_iff.1 xp).1).trans xp
  replace ha := ha.below hb3
  replace ht := ht.below hb3
  replace hp := hp.below hb3
  replace hm := hm.below hb3
  replace hb := hb.trans (hb3.mono hb.size)
  generalize w8.alloc (.cells #[.int .i64 m.letters, .int .i64 m.start, .slice am2 m.next.length bm2, .slice am3 m.prio.length bm3] 24) = w9 at *
  generalize w8.heap.size = zxm at *
  clear hb3
  have HN : a.next.length ≤ 2000 := by have := HV.out; omega
  have k0 := cell_of_row _ _ 0 _ _ _ hx
  have k1 := cell_of_row _ _ 1 _ _ _ hx
  have k2 := cell_of_row _ _ 2 _ _ _ hx
  have k3 := cell_of_row _ _ 3 _ _ _ hx
  go_wp2_with fail
  refine (Reduce_c _ _ a ha HN).mono ?_
  rintro e w10 ⟨vhd, rfl, hK, hb3⟩
  have hd := hK _ (Only.refl _ _)
  replace hx := (hb3.block _ (Array.getElem?_eq_some_iff.1 hx).1).trans hx
  replace xt := (hb3.block _ (Array.getElem?_eq_some_iff.1 xt).1).trans xt
  replace xp := (hb3.block _ (Array.getElem?_eq_some_iff.1 xp).1).trans xp
  replace xm := (hb3.block _ (Array.getElem?_eq_some_iff.1 xm).1).trans xm
  replace ha := ha.below hb3
  replace ht := ht.below hb3
  replace hp := hp.below hb3
  replace hm := hm.below hb3
  replace hb := hb.trans (hb3.mono hb.size)
  clear hb3 hK k0 k1 k2 k3 HN
  obtain ⟨d, hdd⟩ : ∃ t, reduceF a = t := ⟨_, rfl⟩
  rw [hdd] at hd
  have HDD := Lib.hid hdd
  clear hdd
  obtain ⟨ad2, bd2, ad3, bd3, rfl⟩ := hd.shape
  go_upto_region 8 with (fail)
  obtain ⟨xd, hb3, -⟩ := box_new hb hb.size #[.int .i64 d.letters, .int .i64 d.start, .slice ad2 d.next.length bd2, .slice ad3 d.prio.length bd3] 24
  replace hx := (hb3.block _ (Array.getElem?_eq_some_iff.1 hx).1).trans hx
  replace xt := (hb3.block _ (Array.getElem?_eq_some_iff.1 xt).1).trans xt
  replace xp := (hb3.block _ (Array.getElem?_eq_some_iff.1 xp).1).trans xp
  replace xm := (hb3.block _ (Array.getElem?_eq_some_iff.1 xm).1).trans xm
  replace ha := ha.below hb3
  replace ht := ht.below hb3
  replace hp := hp.below hb3
  replace hm := hm.below hb3
  replace hd := hd.below hb3
  replace hb := hb.trans (hb3.mono hb.size)
  generalize w10.alloc (.cells #[.int .i64 d.letters, .int .i64 d.start, .slice ad2 d.next.length bd2, .slice ad3 d.prio.length bd3] 24) = w11 at *
  generalize w10.heap.size = zxd at *
  clear hb3
  have hfin : validA a = true → validA t = true ∧ validA p = true ∧ validA m = true ∧ validA d = true := fun hv => by
    have h0 := AuV.of hv
    have e1 : t = trimA a := by rw [← HTT.out]; unfold trimF; rw [if_pos hv]
    have e2 : p = priosA a := by rw [← HPP.out]; unfold priosF; rw [if_pos hv]
    have e3 : m = mergeA a := by rw [← HMM.out]; unfold mergeF; rw [if_pos hv]
    have e4 := reduce_val h0
    rw [HDD.out] at e4
    exact ⟨by rw [e1]; exact h0.trim.valid, by rw [e2]; exact h0.prios.valid, by rw [e3]; exact h0.merge.valid, e4⟩
  have HF := Lib.hid hfin
  clear hfin
  have k0 := cell_of_row _ _ 0 _ _ _ hx
  have k1 := cell_of_row _ _ 1 _ _ _ hx
  have k2 := cell_of_row _ _ 2 _ _ _ hx
  have k3 := cell_of_row _ _ 3 _ _ _ hx
  go_wp2_with fail
  refine (RPValid_c _ _ a ha).mono ?_
  rintro e w12 ⟨rfl, hb3⟩
  replace hx := (hb3.block _ (Array.getElem?_eq_some_iff.1 hx).1).trans hx
  replace xt := (hb3.block _ (Array.getElem?_eq_some_iff.1 xt).1).trans xt
  replace xp := (hb3.block _ (Array.getElem?_eq_some_iff.1 xp).1).trans xp
  replace xm := (hb3.block _ (Array.getElem?_eq_some_iff.1 xm).1).trans xm
  replace xd := (hb3.block _ (Array.getElem?_eq_some_iff.1 xd).1).trans xd
  replace ha := ha.below hb3
  replace ht := ht.below hb3
  replace hp := hp.below hb3
  replace hm := hm.below hb3
  replace hd := hd.below hb3
  replace hb := hb.trans (hb3.mono hb.size)
  clear hb3 k0 k1 k2 k3
  have HZ : Hid (∀ (W : World) (K : Act → World → Prop), True) := fun _ _ => trivial
  clear HZ
  have hgo : ∀ bv : Bool, validA a = bv → True := fun _ _ => trivial
  clear hgo
  cases hva : validA a
  · as_aux_lemma =>
    clear hva
    go_upto_region 9 with (fail)
    have HB1 : Hid (∀ W, Below w12.drew.heap.size w12.drew W → Below w12.heap.size w12 W) := fun W h => (Below.drew (B := w12.heap.size) (Below.refl _ _)).trans h
    have HA : Hid (∀ W, Below w12.drew.heap.size w12.drew W → W.cell? ⟨zhx, 0, none⟩ = some (.int .i64 a.letters) ∧ W.cell? ⟨zhx, 1, none⟩ = some (.int .i64 a.start) ∧ W.cell? ⟨zhx, 2, none⟩ = some (.slice p2 a.next.length q2) ∧ W.cell? ⟨zhx, 3, none⟩ = some (.slice p3 a.prio.length q3)) := fun W h => by
      have k := ((HB1.out W h).block _ (Array.getElem?_eq_some_iff.1 hx).1).trans hx
      exact ⟨cell_of_row _ _ 0 _ _ _ k, cell_of_row _ _ 1 _ _ _ k, cell_of_row _ _ 2 _ _ _ k, cell_of_row _ _ 3 _ _ _ k⟩
    have Ht : Hid (∀ W, Below w12.drew.heap.size w12.drew W → W.cell? ⟨zxt, 0, none⟩ = some (.int .i64 t.letters) ∧ W.cell? ⟨zxt, 1, none⟩ = some (.int .i64 t.start) ∧ W.cell? ⟨zxt, 2, none⟩ = some (.slice at2 t.next.length bt2) ∧ W.cell? ⟨zxt, 3, none⟩ = some (.slice at3 t.prio.length bt3)) := fun W h => by
      have k := ((HB1.out W h).block _ (Array.getElem?_eq_some_iff.1 xt).1).trans xt
      exact ⟨cell_of_row _ _ 0 _ _ _ k, cell_of_row _ _ 1 _ _ _ k, cell_of_row _ _ 2 _ _ _ k, cell_of_row _ _ 3 _ _ _ k⟩
    have Hp : Hid (∀ W, Below w12.drew.heap.size w12.drew W → W.cell? ⟨zxp, 0, none⟩ = some (.int .i64 p.letters) ∧ W.cell? ⟨zxp, 1, none⟩ = some (.int .i64 p.start) ∧ W.cell? ⟨zxp, 2, none⟩ = some (.slice ap2 p.next.length bp2) ∧ W.cell? ⟨zxp, 3, none⟩ = some (.slice ap3 p.prio.length bp3)) := fun W h => by
      have k := ((HB1.out W h).block _ (Array.getElem?_eq_some_iff.1 xp).1).trans xp
      exact ⟨cell_of_row _ _ 0 _ _ _ k, cell_of_row _ _ 1 _ _ _ k, cell_of_row _ _ 2 _ _ _ k, cell_of_row _ _ 3 _ _ _ k⟩
    have Hm : Hid (∀ W, Below w12.drew.heap.size w12.drew W → W.cell? ⟨zxm, 0, none⟩ = some (.int .i64 m.letters) ∧ W.cell? ⟨zxm, 1, none⟩ = some (.int .i64 m.start) ∧ W.cell? ⟨zxm, 2, none⟩ = some (.slice am2 m.next.length bm2) ∧ W.cell? ⟨zxm, 3, none⟩ = some (.slice am3 m.prio.length bm3)) := fun W h => by
      have k := ((HB1.out W h).block _ (Array.getElem?_eq_some_iff.1 xm).1).trans xm
      exact ⟨cell_of_row _ _ 0 _ _ _ k, cell_of_row _ _ 1 _ _ _ k, cell_of_row _ _ 2 _ _ _ k, cell_of_row _ _ 3 _ _ _ k⟩
    have Hd : Hid (∀ W, Below w12.drew.heap.size w12.drew W → W.cell? ⟨zxd, 0, none⟩ = some (.int .i64 d.letters) ∧ W.cell? ⟨zxd, 1, none⟩ = some (.int .i64 d.start) ∧ W.cell? ⟨zxd, 2, none⟩ = some (.slice ad2 d.next.length bd2) ∧ W.cell? ⟨zxd, 3, none⟩ = some (.slice ad3 d.prio.length bd3)) := fun W h => by
      have k := ((HB1.out W h).block _ (Array.getElem?_eq_some_iff.1 xd).1).trans xd
      exact ⟨cell_of_row _ _ 0 _ _ _ k, cell_of_row _ _ 1 _ _ _ k, cell_of_row _ _ 2 _ _ _ k, cell_of_row _ _ 3 _ _ _ k⟩
    have HRt : Hid (∀ W, Below w12.heap.size w12 W → Calls Try.prog 19 #[.agg #[.int .i64 a.letters, .int .i64 a.start, .slice p2 a.next.length q2, .slice p3 a.prio.length q3]] W (NewAuto t W)) := fun W h => by
      have k := RTrim_c W _ a (ha.below h)
      rw [HTT.out] at k
      exact k
    have HSt : Hid (∀ W u, Below w12.heap.size w12 W → IsAuto W u t → Calls Try.prog 18 #[.agg #[.int .i64 t.letters, .int .i64 t.start, .slice at2 t.next.length bt2, .slice at3 t.prio.length bt3], u] W (Calm (.bool true) W)) := fun W u h hu => by
      have k := Same_c W _ u t t (ht.below h) hu
      rwa [show decide (t = t) = true from decide_eq_true rfl] at k
    have HRp : Hid (∀ W, Below w12.heap.size w12 W → Calls Try.prog 20 #[.agg #[.int .i64 a.letters, .int .i64 a.start, .slice p2 a.next.length q2, .slice p3 a.prio.length q3]] W (IsOut p W)) := fun W h => by
      have k := RPrios_c W _ a (ha.below h)
      rw [HPP.out] at k
      exact k
    have HSp : Hid (∀ W u, Below w12.heap.size w12 W → IsAuto W u p → Calls Try.prog 18 #[.agg #[.int .i64 p.letters, .int .i64 p.start, .slice ap2 p.next.length bp2, .slice ap3 p.prio.length bp3], u] W (Calm (.bool true) W)) := fun W u h hu => by
      have k := Same_c W _ u p p (hp.below h) hu
      rwa [show decide (p = p) = true from decide_eq_true rfl] at k
    have HRm : Hid (∀ W, Below w12.heap.size w12 W → Calls Try.prog 21 #[.agg #[.int .i64 a.letters, .int .i64 a.start, .slice p2 a.next.length q2, .slice p3 a.prio.length q3]] W (NewAuto m W)) := fun W h => by
      have k := RMerge_c W _ a (ha.below h)
      rw [HMM.out] at k
      exact k
    have HSm : Hid (∀ W u, Below w12.heap.size w12 W → IsAuto W u m → Calls Try.prog 18 #[.agg #[.int .i64 m.letters, .int .i64 m.start, .slice am2 m.next.length bm2, .slice am3 m.prio.length bm3], u] W (Calm (.bool true) W)) := fun W u h hu => by
      have k := Same_c W _ u m m (hm.below h) hu
      rwa [show decide (m = m) = true from decide_eq_true rfl] at k
    have HRd : Hid (∀ W, Below w12.heap.size w12 W → Calls Try.prog 22 #[.agg #[.int .i64 a.letters, .int .i64 a.start, .slice p2 a.next.length q2, .slice p3 a.prio.length q3]] W (NewAuto d W)) := fun W h => by
      have k := RReduce_c W _ a (ha.below h)
      rw [HDD.out] at k
      exact k
    have HSd : Hid (∀ W u, Below w12.heap.size w12 W → IsAuto W u d → Calls Try.prog 18 #[.agg #[.int .i64 d.letters, .int .i64 d.start, .slice ad2 d.next.length bd2, .slice ad3 d.prio.length bd3], u] W (Calm (.bool true) W)) := fun W u h hu => by
      have k := Same_c W _ u d d (hd.below h) hu
      rwa [show decide (d = d) = true from decide_eq_true rfl] at k
    clear ha ht xt hp xp hm xm hd xd hx HTT HPP HMM HDD HV HF
    have HBT := Lib.hid hb
    clear hb
    refine region_stable hmx (RL1 a t p m d p2 p3 at2 at3 ap2 ap3 am2 am3 ad2 ad3 q2 q3 bt2 bt3 bp2 bp3 bm2 bm3 bd2 bd3) (fun vs => { tmps := (_ :: _ :: vs 28 :: _ :: _ :: _ :: _ :: _ :: _ :: _ :: _ :: _ :: _ :: _ :: _ :: _ :: _ :: _ :: _ :: _ :: _ :: _ :: _ :: _ :: _ :: _ :: _ :: _ :: _ :: _ :: _ :: _ :: _ :: _ :: _ :: _ :: _ :: _ :: _ :: _ :: _ :: vs 0 :: vs 1 :: vs 2 :: vs 3 :: vs 4 :: vs 5 :: vs 6 :: vs 7 :: vs 8 :: vs 9 :: vs 10 :: vs 11 :: vs 12 :: vs 13 :: vs 14 :: vs 15 :: vs 16 :: vs 17 :: vs 18 :: vs 19 :: vs 20 :: vs 21 :: vs 22 :: vs 23 :: vs 24 :: vs 25 :: vs 26 :: vs 27 :: []).toArray, defers := _ }) (fun k => if k = 28 then .bool false else undef) rfl (by kernel_rfl) (fun _ _ _ _ h hb => h.below hb) ?step ?fin
    case step =>
      intro ix o ho
      match ix, ho with
      | 0, ho =>
        obtain rfl := Option.some.inj ho
        intro vs W K hB hD hK
        have HK := Lib.hid hK
        clear hK hD ho
        dsimp only
        go_simp
        have h := HK.out _ _ (Below.refl _ _) rfl
        simp only [upd, Nat.reduceEqDiff, reduceIte] at h
        exact h
      | 1, ho =>
        obtain rfl := Option.some.inj ho
        intro vs W K hB hD hK
        have HK := Lib.hid hK
        have e0 : vs 0 = .bool true := dep_of hD 0 (by rfl)
        clear hK hD ho
        dsimp only
        go_simp
        have h := HK.out _ _ (Below.refl _ _) rfl
        simp only [upd, Nat.reduceEqDiff, reduceIte, e0] at h
        exact h
      | 2, ho =>
        obtain rfl := Option.some.inj ho
        intro vs W K hB hD hK
        have HK := Lib.hid hK
        have e1 : vs 1 = .bool true := dep_of hD 1 (by rfl)
        obtain ⟨d0, d1, d2, d3⟩ := Ht.out W hB
        clear hK hD ho
        dsimp only
        go_simp
        have h := HK.out _ _ (Below.refl _ _) rfl
        simp only [upd, Nat.reduceEqDiff, reduceIte, e1] at h
        exact h
      | 3, ho =>
        obtain rfl := Option.some.inj ho
        intro vs W K hB hD hK
        have HK := Lib.hid hK
        have e1 : vs 1 = .bool true := dep_of hD 1 (by rfl)
        obtain ⟨d0, d1, d2, d3⟩ := HA.out W hB
        clear hK hD ho
        dsimp only
        go_simp
        have h := HK.out _ _ (Below.refl _ _) rfl
        simp only [upd, Nat.reduceEqDiff, reduceIte, e1] at h
        exact h
      | 4, ho =>
        obtain rfl := Option.some.inj ho
        intro vs W K hB hD hK
        have HK := Lib.hid hK
        have e1 : vs 1 = .bool true := dep_of hD 1 (by rfl)
        have e3 : vs 3 = .agg #[.int .i64 a.letters, .int .i64 a.start, .slice p2 a.next.length q2, .slice p3 a.prio.length q3] := dep_of hD 3 (by rfl)
        clear hK hD ho
        dsimp only
        go_simp
        refine (HRt.out W (HB1.out W hB)).mono ?_
        rintro e W' ⟨u', rfl, hK, hb⟩
        have h := HK.out _ _ hb (hK _ (Only.refl _ _))
        simp only [upd, Nat.reduceEqDiff, reduceIte, e1, e3] at h
        exact h
      | 5, ho =>
        obtain rfl := Option.some.inj ho
        intro vs W K hB hD hK
        have HK := Lib.hid hK
        have e1 : vs 1 = .bool true := dep_of hD 1 (by rfl)
        have e2 : vs 2 = .agg #[.int .i64 t.letters, .int .i64 t.start, .slice at2 t.next.length bt2, .slice at3 t.prio.length bt3] := dep_of hD 2 (by rfl)
        have i4 := dep_of (R := RL1 a t p m d p2 p3 at2 at3 ap2 ap3 am2 am3 ad2 ad3 q2 q3 bt2 bt3 bp2 bp3 bm2 bm3 bd2 bd3) hD 4 (by rfl)
        clear hK hD ho
        dsimp only
        go_simp
        refine (HSt.out W (vs 4) (HB1.out W hB) i4).mono ?_
        rintro e W' ⟨rfl, hb⟩
        have h := HK.out _ _ hb rfl
        simp only [upd, Nat.reduceEqDiff, reduceIte, e1, e2] at h
        exact h
      | 6, ho =>
        obtain rfl := Option.some.inj ho
        intro vs W K hB hD hK
        have HK := Lib.hid hK
        have e1 : vs 1 = .bool true := dep_of hD 1 (by rfl)
        have e5 : vs 5 = .bool true := dep_of hD 5 (by rfl)
        clear hK hD ho
        dsimp only
        go_simp
        have h := HK.out _ _ (Below.refl _ _) rfl
        simp only [upd, Nat.reduceEqDiff, reduceIte, e1, e5] at h
        exact h
      | 7, ho =>
        obtain rfl := Option.some.inj ho
        intro vs W K hB hD hK
        have HK := Lib.hid hK
        have e6 : vs 6 = .bool true := dep_of hD 6 (by rfl)
        clear hK hD ho
        dsimp only
        go_simp
        have h := HK.out _ _ (Below.refl _ _) rfl
        simp only [upd, Nat.reduceEqDiff, reduceIte, e6] at h
        exact h
      | 8, ho =>
        obtain rfl := Option.some.inj ho
        intro vs W K hB hD hK
        have HK := Lib.hid hK
        have e7 : vs 7 = .bool true := dep_of hD 7 (by rfl)
        obtain ⟨d0, d1, d2, d3⟩ := Hp.out W hB
        clear hK hD ho
        dsimp only
        go_simp
        have h := HK.out _ _ (Below.refl _ _) rfl
        simp only [upd, Nat.reduceEqDiff, reduceIte, e7] at h
        exact h
      | 9, ho =>
        obtain rfl := Option.some.inj ho
        intro vs W K hB hD hK
        have HK := Lib.hid hK
        have e7 : vs 7 = .bool true := dep_of hD 7 (by rfl)
        obtain ⟨d0, d1, d2, d3⟩ := HA.out W hB
        clear hK hD ho
        dsimp only
        go_simp
        have h := HK.out _ _ (Below.refl _ _) rfl
        simp only [upd, Nat.reduceEqDiff, reduceIte, e7] at h
        exact h
      | 10, ho =>
        obtain rfl := Option.some.inj ho
        intro vs W K hB hD hK
        have HK := Lib.hid hK
        have e7 : vs 7 = .bool true := dep_of hD 7 (by rfl)
        have e9 : vs 9 = .agg #[.int .i64 a.letters, .int .i64 a.start, .slice p2 a.next.length q2, .slice p3 a.prio.length q3] := dep_of hD 9 (by rfl)
        clear hK hD ho
        dsimp only
        go_simp
        refine (HRp.out W (HB1.out W hB)).mono ?_
        rintro e W' ⟨u', rfl, hu, hb⟩
        have h := HK.out _ _ hb hu
        simp only [upd, Nat.reduceEqDiff, reduceIte, e7, e9] at h
        exact h
      | 11, ho =>
        obtain rfl := Option.some.inj ho
        intro vs W K hB hD hK
        have HK := Lib.hid hK
        have e7 : vs 7 = .bool true := dep_of hD 7 (by rfl)
        have e8 : vs 8 = .agg #[.int .i64 p.letters, .int .i64 p.start, .slice ap2 p.next.length bp2, .slice ap3 p.prio.length bp3] := dep_of hD 8 (by rfl)
        have i10 := dep_of (R := RL1 a t p m d p2 p3 at2 at3 ap2 ap3 am2 am3 ad2 ad3 q2 q3 bt2 bt3 bp2 bp3 bm2 bm3 bd2 bd3) hD 10 (by rfl)
        clear hK hD ho
        dsimp only
        go_simp
        refine (HSp.out W (vs 10) (HB1.out W hB) i10).mono ?_
        rintro e W' ⟨rfl, hb⟩
        have h := HK.out _ _ hb rfl
        simp only [upd, Nat.reduceEqDiff, reduceIte, e7, e8] at h
        exact h
      | 12, ho =>
        obtain rfl := Option.some.inj ho
        intro vs W K hB hD hK
        have HK := Lib.hid hK
        have e7 : vs 7 = .bool true := dep_of hD 7 (by rfl)
        have e11 : vs 11 = .bool true := dep_of hD 11 (by rfl)
        clear hK hD ho
        dsimp only
        go_simp
        have h := HK.out _ _ (Below.refl _ _) rfl
        simp only [upd, Nat.reduceEqDiff, reduceIte, e7, e11] at h
        exact h
      | 13, ho =>
        obtain rfl := Option.some.inj ho
        intro vs W K hB hD hK
        have HK := Lib.hid hK
        have e12 : vs 12 = .bool true := dep_of hD 12 (by rfl)
        clear hK hD ho
        dsimp only
        go_simp
        have h := HK.out _ _ (Below.refl _ _) rfl
        simp only [upd, Nat.reduceEqDiff, reduceIte, e12] at h
        exact h
      | 14, ho =>
        obtain rfl := Option.some.inj ho
        intro vs W K hB hD hK
        have HK := Lib.hid hK
        have e13 : vs 13 = .bool true := dep_of hD 13 (by rfl)
        obtain ⟨d0, d1, d2, d3⟩ := Hm.out W hB
        clear hK hD ho
        dsimp only
        go_simp
        have h := HK.out _ _ (Below.refl _ _) rfl
        simp only [upd, Nat.reduceEqDiff, reduceIte, e13] at h
        exact h
      | 15, ho =>
        obtain rfl := Option.some.inj ho
        intro vs W K hB hD hK
        have HK := Lib.hid hK
        have e13 : vs 13 = .bool true := dep_of hD 13 (by rfl)
        obtain ⟨d0, d1, d2, d3⟩ := HA.out W hB
        clear hK hD ho
        dsimp only
        go_simp
        have h := HK.out _ _ (Below.refl _ _) rfl
        simp only [upd, Nat.reduceEqDiff, reduceIte, e13] at h
        exact h
      | 16, ho =>
        obtain rfl := Option.some.inj ho
        intro vs W K hB hD hK
        have HK := Lib.hid hK
        have e13 : vs 13 = .bool true := dep_of hD 13 (by rfl)
        have e15 : vs 15 = .agg #[.int .i64 a.letters, .int .i64 a.start, .slice p2 a.next.length q2, .slice p3 a.prio.length q3] := dep_of hD 15 (by rfl)
        clear hK hD ho
        dsimp only
        go_simp
        refine (HRm.out W (HB1.out W hB)).mono ?_
        rintro e W' ⟨u', rfl, hK, hb⟩
        have h := HK.out _ _ hb (hK _ (Only.refl _ _))
        simp only [upd, Nat.reduceEqDiff, reduceIte, e13, e15] at h
        exact h
      | 17, ho =>
        obtain rfl := Option.some.inj ho
        intro vs W K hB hD hK
        have HK := Lib.hid hK
        have e13 : vs 13 = .bool true := dep_of hD 13 (by rfl)
        have e14 : vs 14 = .agg #[.int .i64 m.letters, .int .i64 m.start, .slice am2 m.next.length bm2, .slice am3 m.prio.length bm3] := dep_of hD 14 (by rfl)
        have i16 := dep_of (R := RL1 a t p m d p2 p3 at2 at3 ap2 ap3 am2 am3 ad2 ad3 q2 q3 bt2 bt3 bp2 bp3 bm2 bm3 bd2 bd3) hD 16 (by rfl)
        clear hK hD ho
        dsimp only
        go_simp
        refine (HSm.out W (vs 16) (HB1.out W hB) i16).mono ?_
        rintro e W' ⟨rfl, hb⟩
        have h := HK.out _ _ hb rfl
        simp only [upd, Nat.reduceEqDiff, reduceIte, e13, e14] at h
        exact h
      | 18, ho =>
        obtain rfl := Option.some.inj ho
        intro vs W K hB hD hK
        have HK := Lib.hid hK
        have e13 : vs 13 = .bool true := dep_of hD 13 (by rfl)
        have e17 : vs 17 = .bool true := dep_of hD 17 (by rfl)
        clear hK hD ho
        dsimp only
        go_simp
        have h := HK.out _ _ (Below.refl _ _) rfl
        simp only [upd, Nat.reduceEqDiff, reduceIte, e13, e17] at h
        exact h
      | 19, ho =>
        obtain rfl := Option.some.inj ho
        intro vs W K hB hD hK
        have HK := Lib.hid hK
        have e18 : vs 18 = .bool true := dep_of hD 18 (by rfl)
        clear hK hD ho
        dsimp only
        go_simp
        have h := HK.out _ _ (Below.refl _ _) rfl
        simp only [upd, Nat.reduceEqDiff, reduceIte, e18] at h
        exact h
      | 20, ho =>
        obtain rfl := Option.some.inj ho
        intro vs W K hB hD hK
        have HK := Lib.hid hK
        have e19 : vs 19 = .bool true := dep_of hD 19 (by rfl)
        obtain ⟨d0, d1, d2, d3⟩ := Hd.out W hB
        clear hK hD ho
        dsimp only
        go_simp
        have h := HK.out _ _ (Below.refl _ _) rfl
        simp only [upd, Nat.reduceEqDiff, reduceIte, e19] at h
        exact h
      | 21, ho =>
        obtain rfl := Option.some.inj ho
        intro vs W K hB hD hK
        have HK := Lib.hid hK
        have e19 : vs 19 = .bool true := dep_of hD 19 (by rfl)
        obtain ⟨d0, d1, d2, d3⟩ := HA.out W hB
        clear hK hD ho
        dsimp only
        go_simp
        have h := HK.out _ _ (Below.refl _ _) rfl
        simp only [upd, Nat.reduceEqDiff, reduceIte, e19] at h
        exact h
      | 22, ho =>
        obtain rfl := Option.some.inj ho
        intro vs W K hB hD hK
        have HK := Lib.hid hK
        have e19 : vs 19 = .bool true := dep_of hD 19 (by rfl)
        have e21 : vs 21 = .agg #[.int .i64 a.letters, .int .i64 a.start, .slice p2 a.next.length q2, .slice p3 a.prio.length q3] := dep_of hD 21 (by rfl)
        clear hK hD ho
        dsimp only
        go_simp
        refine (HRd.out W (HB1.out W hB)).mono ?_
        rintro e W' ⟨u', rfl, hK, hb⟩
        have h := HK.out _ _ hb (hK _ (Only.refl _ _))
        simp only [upd, Nat.reduceEqDiff, reduceIte, e19, e21] at h
        exact h
      | 23, ho =>
        obtain rfl := Option.some.inj ho
        intro vs W K hB hD hK
        have HK := Lib.hid hK
        have e19 : vs 19 = .bool true := dep_of hD 19 (by rfl)
        have e20 : vs 20 = .agg #[.int .i64 d.letters, .int .i64 d.start, .slice ad2 d.next.length bd2, .slice ad3 d.prio.length bd3] := dep_of hD 20 (by rfl)
        have i22 := dep_of (R := RL1 a t p m d p2 p3 at2 at3 ap2 ap3 am2 am3 ad2 ad3 q2 q3 bt2 bt3 bp2 bp3 bm2 bm3 bd2 bd3) hD 22 (by rfl)
        clear hK hD ho
        dsimp only
        go_simp
        refine (HSd.out W (vs 22) (HB1.out W hB) i22).mono ?_
        rintro e W' ⟨rfl, hb⟩
        have h := HK.out _ _ hb rfl
        simp only [upd, Nat.reduceEqDiff, reduceIte, e19, e20] at h
        exact h
      | 24, ho =>
        obtain rfl := Option.some.inj ho
        intro vs W K hB hD hK
        have HK := Lib.hid hK
        have e19 : vs 19 = .bool true := dep_of hD 19 (by rfl)
        have e23 : vs 23 = .bool true := dep_of hD 23 (by rfl)
        clear hK hD ho
        dsimp only
        go_simp
        have h := HK.out _ _ (Below.refl _ _) rfl
        simp only [upd, Nat.reduceEqDiff, reduceIte, e19, e23] at h
        exact h
      | 25, ho =>
        obtain rfl := Option.some.inj ho
        intro vs W K hB hD hK
        have HK := Lib.hid hK
        have e24 : vs 24 = .bool true := dep_of hD 24 (by rfl)
        clear hK hD ho
        dsimp only
        go_simp
        have h := HK.out _ _ (Below.refl _ _) rfl
        simp only [upd, Nat.reduceEqDiff, reduceIte, e24] at h
        exact h
      | 26, ho =>
        obtain rfl := Option.some.inj ho
        intro vs W K hB hD hK
        have HK := Lib.hid hK
        have e25 : vs 25 = .bool true := dep_of hD 25 (by rfl)
        clear hK hD ho
        dsimp only
        go_simp
        have h := HK.out _ _ (Below.refl _ _) rfl
        simp only [upd, Nat.reduceEqDiff, reduceIte, e25] at h
        exact h
      | 27, ho =>
        obtain rfl := Option.some.inj ho
        intro vs W K hB hD hK
        have HK := Lib.hid hK
        have e25 : vs 25 = .bool true := dep_of hD 25 (by rfl)
        have e26 : vs 26 = .bool true := dep_of hD 26 (by rfl)
        clear hK hD ho
        dsimp only
        go_simp
        have h := HK.out _ _ (Below.refl _ _) rfl
        simp only [upd, Nat.reduceEqDiff, reduceIte, e25, e26] at h
        exact h
      | 28, ho =>
        obtain rfl := Option.some.inj ho
        intro vs W K hB hD hK
        have HK := Lib.hid hK
        have e27 : vs 27 = .bool true := dep_of hD 27 (by rfl)
        clear hK hD ho
        dsimp only
        go_simp
        have h := HK.out _ _ (Below.refl _ _) rfl
        simp only [upd, Nat.reduceEqDiff, reduceIte, e27] at h
        exact h
      | q + 29, ho => exact absurd ho (by simp)
    case fin =>
      intro vs W hB hall
      have e50 : vs 28 = .bool true := hall 28 (by decide)
      have hB5 := HBT.out.trans ((HB1.out W hB).mono HBT.out.size)
      clear hall hB
      rw [e50]
      clear e50
      go_wp2
      go_ret
      exact HE.out _ hB5
  obtain ⟨y1, y2, y3, y4⟩ := HF.out hva
  clear hva
  have k0 := cell_of_row _ _ 0 _ _ _ xt
  have k1 := cell_of_row _ _ 1 _ _ _ xt
  have k2 := cell_of_row _ _ 2 _ _ _ xt
  have k3 := cell_of_row _ _ 3 _ _ _ xt
  go_wp2_with fail
  refine (PValid_c _ _ t ht).mono ?_
  rw [y1]
  rintro e w13 ⟨rfl, hb3⟩
  replace hx := (hb3.block _ (Array.getElem?_eq_some_iff.1 hx).1).trans hx
  replace xt := (hb3.block _ (Array.getElem?_eq_some_iff.1 xt).1).trans xt
  replace xp := (hb3.block _ (Array.getElem?_eq_some_iff.1 xp).1).trans xp
  replace xm := (hb3.block _ (Array.getElem?_eq_some_iff.1 xm).1).trans xm
  replace xd := (hb3.block _ (Array.getElem?_eq_some_iff.1 xd).1).trans xd
  replace ha := ha.below hb3
  replace ht := ht.below hb3
  replace hp := hp.below hb3
  replace hm := hm.below hb3
  replace hd := hd.below hb3
  replace hb := hb.trans (hb3.mono hb.size)
  clear hb3 k0 k1 k2 k3
  have k0 := cell_of_row _ _ 0 _ _ _ xp
  have k1 := cell_of_row _ _ 1 _ _ _ xp
  have k2 := cell_of_row _ _ 2 _ _ _ xp
  have k3 := cell_of_row _ _ 3 _ _ _ xp
  go_wp2_with fail
  refine (PValid_c _ _ p hp).mono ?_
  rw [y2]
  rintro e w14 ⟨rfl, hb3⟩
  replace hx := (hb3.block _ (Array.getElem?_eq_some_iff.1 hx).1).trans hx
  replace xt := (hb3.block _ (Array.getElem?_eq_some_iff.1 xt).1).trans xt
  replace xp := (hb3.block _ (Array.getElem?_eq_some_iff.1 xp).1).trans xp
  replace xm := (hb3.block _ (Array.getElem?_eq_some_iff.1 xm).1).trans xm
  replace xd := (hb3.block _ (Array.getElem?_eq_some_iff.1 xd).1).trans xd
  replace ha := ha.below hb3
  replace ht := ht.below hb3
  replace hp := hp.below hb3
  replace hm := hm.below hb3
  replace hd := hd.below hb3
  replace hb := hb.trans (hb3.mono hb.size)
  clear hb3 k0 k1 k2 k3
  have k0 := cell_of_row _ _ 0 _ _ _ xm
  have k1 := cell_of_row _ _ 1 _ _ _ xm
  have k2 := cell_of_row _ _ 2 _ _ _ xm
  have k3 := cell_of_row _ _ 3 _ _ _ xm
  go_wp2_with fail
  refine (PValid_c _ _ m hm).mono ?_
  rw [y3]
  rintro e w15 ⟨rfl, hb3⟩
  replace hx := (hb3.block _ (Array.getElem?_eq_some_iff.1 hx).1).trans hx
  replace xt := (hb3.block _ (Array.getElem?_eq_some_iff.1 xt).1).trans xt
  replace xp := (hb3.block _ (Array.getElem?_eq_some_iff.1 xp).1).trans xp
  replace xm := (hb3.block _ (Array.getElem?_eq_some_iff.1 xm).1).trans xm
  replace xd := (hb3.block _ (Array.getElem?_eq_some_iff.1 xd).1).trans xd
  replace ha := ha.below hb3
  replace ht := ht.below hb3
  replace hp := hp.below hb3
  replace hm := hm.below hb3
  replace hd := hd.below hb3
  replace hb := hb.trans (hb3.mono hb.size)
  clear hb3 k0 k1 k2 k3
  have k0 := cell_of_row _ _ 0 _ _ _ xd
  have k1 := cell_of_row _ _ 1 _ _ _ xd
  have k2 := cell_of_row _ _ 2 _ _ _ xd
  have k3 := cell_of_row _ _ 3 _ _ _ xd
  go_wp2_with fail
  refine (PValid_c _ _ d hd).mono ?_
  rw [y4]
  rintro e w16 ⟨rfl, hb3⟩
  replace hx := (hb3.block _ (Array.getElem?_eq_some_iff.1 hx).1).trans hx
  replace xt := (hb3.block _ (Array.getElem?_eq_some_iff.1 xt).1).trans xt
  replace xp := (hb3.block _ (Array.getElem?_eq_some_iff.1 xp).1).trans xp
  replace xm := (hb3.block _ (Array.getElem?_eq_some_iff.1 xm).1).trans xm
  replace xd := (hb3.block _ (Array.getElem?_eq_some_iff.1 xd).1).trans xd
  replace ha := ha.below hb3
  replace ht := ht.below hb3
  replace hp := hp.below hb3
  replace hm := hm.below hb3
  replace hd := hd.below hb3
  replace hb := hb.trans (hb3.mono hb.size)
  clear hb3 k0 k1 k2 k3
  clear y1 y2 y3 y4
  as_aux_lemma =>
    go_upto_region 9 with (fail)
    have HB1 : Hid (∀ W, Below w16.drew.heap.size w16.drew W → Below w16.heap.size w16 W) := fun W h => (Below.drew (B := w16.heap.size) (Below.refl _ _)).trans h
    have HA : Hid (∀ W, Below w16.drew.heap.size w16.drew W → W.cell? ⟨zhx, 0, none⟩ = some (.int .i64 a.letters) ∧ W.cell? ⟨zhx, 1, none⟩ = some (.int .i64 a.start) ∧ W.cell? ⟨zhx, 2, none⟩ = some (.slice p2 a.next.length q2) ∧ W.cell? ⟨zhx, 3, none⟩ = some (.slice p3 a.prio.length q3)) := fun W h => by
      have k := ((HB1.out W h).block _ (Array.getElem?_eq_some_iff.1 hx).1).trans hx
      exact ⟨cell_of_row _ _ 0 _ _ _ k, cell_of_row _ _ 1 _ _ _ k, cell_of_row _ _ 2 _ _ _ k, cell_of_row _ _ 3 _ _ _ k⟩
    have Ht : Hid (∀ W, Below w16.drew.heap.size w16.drew W → W.cell? ⟨zxt, 0, none⟩ = some (.int .i64 t.letters) ∧ W.cell? ⟨zxt, 1, none⟩ = some (.int .i64 t.start) ∧ W.cell? ⟨zxt, 2, none⟩ = some (.slice at2 t.next.length bt2) ∧ W.cell? ⟨zxt, 3, none⟩ = some (.slice at3 t.prio.length bt3)) := fun W h => by
      have k := ((HB1.out W h).block _ (Array.getElem?_eq_some_iff.1 xt).1).trans xt
      exact ⟨cell_of_row _ _ 0 _ _ _ k, cell_of_row _ _ 1 _ _ _ k, cell_of_row _ _ 2 _ _ _ k, cell_of_row _ _ 3 _ _ _ k⟩
    have Hp : Hid (∀ W, Below w16.drew.heap.size w16.drew W → W.cell? ⟨zxp, 0, none⟩ = some (.int .i64 p.letters) ∧ W.cell? ⟨zxp, 1, none⟩ = some (.int .i64 p.start) ∧ W.cell? ⟨zxp, 2, none⟩ = some (.slice ap2 p.next.length bp2) ∧ W.cell? ⟨zxp, 3, none⟩ = some (.slice ap3 p.prio.length bp3)) := fun W h => by
      have k := ((HB1.out W h).block _ (Array.getElem?_eq_some_iff.1 xp).1).trans xp
      exact ⟨cell_of_row _ _ 0 _ _ _ k, cell_of_row _ _ 1 _ _ _ k, cell_of_row _ _ 2 _ _ _ k, cell_of_row _ _ 3 _ _ _ k⟩
    have Hm : Hid (∀ W, Below w16.drew.heap.size w16.drew W → W.cell? ⟨zxm, 0, none⟩ = some (.int .i64 m.letters) ∧ W.cell? ⟨zxm, 1, none⟩ = some (.int .i64 m.start) ∧ W.cell? ⟨zxm, 2, none⟩ = some (.slice am2 m.next.length bm2) ∧ W.cell? ⟨zxm, 3, none⟩ = some (.slice am3 m.prio.length bm3)) := fun W h => by
      have k := ((HB1.out W h).block _ (Array.getElem?_eq_some_iff.1 xm).1).trans xm
      exact ⟨cell_of_row _ _ 0 _ _ _ k, cell_of_row _ _ 1 _ _ _ k, cell_of_row _ _ 2 _ _ _ k, cell_of_row _ _ 3 _ _ _ k⟩
    have Hd : Hid (∀ W, Below w16.drew.heap.size w16.drew W → W.cell? ⟨zxd, 0, none⟩ = some (.int .i64 d.letters) ∧ W.cell? ⟨zxd, 1, none⟩ = some (.int .i64 d.start) ∧ W.cell? ⟨zxd, 2, none⟩ = some (.slice ad2 d.next.length bd2) ∧ W.cell? ⟨zxd, 3, none⟩ = some (.slice ad3 d.prio.length bd3)) := fun W h => by
      have k := ((HB1.out W h).block _ (Array.getElem?_eq_some_iff.1 xd).1).trans xd
      exact ⟨cell_of_row _ _ 0 _ _ _ k, cell_of_row _ _ 1 _ _ _ k, cell_of_row _ _ 2 _ _ _ k, cell_of_row _ _ 3 _ _ _ k⟩
    have HRt : Hid (∀ W, Below w16.heap.size w16 W → Calls Try.prog 19 #[.agg #[.int .i64 a.letters, .int .i64 a.start, .slice p2 a.next.length q2, .slice p3 a.prio.length q3]] W (NewAuto t W)) := fun W h => by
      have k := RTrim_c W _ a (ha.below h)
      rw [HTT.out] at k
      exact k
    have HSt : Hid (∀ W u, Below w16.heap.size w16 W → IsAuto W u t → Calls Try.prog 18 #[.agg #[.int .i64 t.letters, .int .i64 t.start, .slice at2 t.next.length bt2, .slice at3 t.prio.length bt3], u] W (Calm (.bool true) W)) := fun W u h hu => by
      have k := Same_c W _ u t t (ht.below h) hu
      rwa [show decide (t = t) = true from decide_eq_true rfl] at k
    have HRp : Hid (∀ W, Below w16.heap.size w16 W → Calls Try.prog 20 #[.agg #[.int .i64 a.letters, .int .i64 a.start, .slice p2 a.next.length q2, .slice p3 a.prio.length q3]] W (IsOut p W)) := fun W h => by
      have k := RPrios_c W _ a (ha.below h)
      rw [HPP.out] at k
      exact k
    have HSp : Hid (∀ W u, Below w16.heap.size w16 W → IsAuto W u p → Calls Try.prog 18 #[.agg #[.int .i64 p.letters, .int .i64 p.start, .slice ap2 p.next.length bp2, .slice ap3 p.prio.length bp3], u] W (Calm (.bool true) W)) := fun W u h hu => by
      have k := Same_c W _ u p p (hp.below h) hu
      rwa [show decide (p = p) = true from decide_eq_true rfl] at k
    have HRm : Hid (∀ W, Below w16.heap.size w16 W → Calls Try.prog 21 #[.agg #[.int .i64 a.letters, .int .i64 a.start, .slice p2 a.next.length q2, .slice p3 a.prio.length q3]] W (NewAuto m W)) := fun W h => by
      have k := RMerge_c W _ a (ha.below h)
      rw [HMM.out] at k
      exact k
    have HSm : Hid (∀ W u, Below w16.heap.size w16 W → IsAuto W u m → Calls Try.prog 18 #[.agg #[.int .i64 m.letters, .int .i64 m.start, .slice am2 m.next.length bm2, .slice am3 m.prio.length bm3], u] W (Calm (.bool true) W)) := fun W u h hu => by
      have k := Same_c W _ u m m (hm.below h) hu
      rwa [show decide (m = m) = true from decide_eq_true rfl] at k
    have HRd : Hid (∀ W, Below w16.heap.size w16 W → Calls Try.prog 22 #[.agg #[.int .i64 a.letters, .int .i64 a.start, .slice p2 a.next.length q2, .slice p3 a.prio.length q3]] W (NewAuto d W)) := fun W h => by
      have k := RReduce_c W _ a (ha.below h)
      rw [HDD.out] at k
      exact k
    have HSd : Hid (∀ W u, Below w16.heap.size w16 W → IsAuto W u d → Calls Try.prog 18 #[.agg #[.int .i64 d.letters, .int .i64 d.start, .slice ad2 d.next.length bd2, .slice ad3 d.prio.length bd3], u] W (Calm (.bool true) W)) := fun W u h hu => by
      have k := Same_c W _ u d d (hd.below h) hu
      rwa [show decide (d = d) = true from decide_eq_true rfl] at k
    clear ha ht xt hp xp hm xm hd xd hx HTT HPP HMM HDD HV HF
    have HBT := Lib.hid hb
    clear hb
    refine region_stable hmx (RL1 a t p m d p2 p3 at2 at3 ap2 ap3 am2 am3 ad2 ad3 q2 q3 bt2 bt3 bp2 bp3 bm2 bm3 bd2 bd3) (fun vs => { tmps := (_ :: _ :: vs 28 :: _ :: _ :: _ :: _ :: _ :: _ :: _ :: _ :: _ :: _ :: _ :: _ :: _ :: _ :: _ :: _ :: _ :: _ :: _ :: _ :: _ :: _ :: _ :: _ :: _ :: _ :: _ :: _ :: _ :: _ :: _ :: _ :: _ :: _ :: _ :: _ :: _ :: _ :: vs 0 :: vs 1 :: vs 2 :: vs 3 :: vs 4 :: vs 5 :: vs 6 :: vs 7 :: vs 8 :: vs 9 :: vs 10 :: vs 11 :: vs 12 :: vs 13 :: vs 14 :: vs 15 :: vs 16 :: vs 17 :: vs 18 :: vs 19 :: vs 20 :: vs 21 :: vs 22 :: vs 23 :: vs 24 :: vs 25 :: vs 26 :: vs 27 :: []).toArray, defers := _ }) (fun k => if k = 28 then .bool false else undef) rfl (by kernel_rfl) (fun _ _ _ _ h hb => h.below hb) ?step ?fin
    case step =>
      intro ix o ho
      match ix, ho with
      | 0, ho =>
        obtain rfl := Option.some.inj ho
        intro vs W K hB hD hK
        have HK := Lib.hid hK
        clear hK hD ho
        dsimp only
        go_simp
        have h := HK.out _ _ (Below.refl _ _) rfl
        simp only [upd, Nat.reduceEqDiff, reduceIte] at h
        exact h
      | 1, ho =>
        obtain rfl := Option.some.inj ho
        intro vs W K hB hD hK
        have HK := Lib.hid hK
        have e0 : vs 0 = .bool true := dep_of hD 0 (by rfl)
        clear hK hD ho
        dsimp only
        go_simp
        have h := HK.out _ _ (Below.refl _ _) rfl
        simp only [upd, Nat.reduceEqDiff, reduceIte, e0] at h
        exact h
      | 2, ho =>
        obtain rfl := Option.some.inj ho
        intro vs W K hB hD hK
        have HK := Lib.hid hK
        have e1 : vs 1 = .bool true := dep_of hD 1 (by rfl)
        obtain ⟨d0, d1, d2, d3⟩ := Ht.out W hB
        clear hK hD ho
        dsimp only
        go_simp
        have h := HK.out _ _ (Below.refl _ _) rfl
        simp only [upd, Nat.reduceEqDiff, reduceIte, e1] at h
        exact h
      | 3, ho =>
        obtain rfl := Option.some.inj ho
        intro vs W K hB hD hK
        have HK := Lib.hid hK
        have e1 : vs 1 = .bool true := dep_of hD 1 (by rfl)
        obtain ⟨d0, d1, d2, d3⟩ := HA.out W hB
        clear hK hD ho
        dsimp only
        go_simp
        have h := HK.out _ _ (Below.refl _ _) rfl
        simp only [upd, Nat.reduceEqDiff, reduceIte, e1] at h
        exact h
      | 4, ho =>
        obtain rfl := Option.some.inj ho
        intro vs W K hB hD hK
        have HK := Lib.hid hK
        have e1 : vs 1 = .bool true := dep_of hD 1 (by rfl)
        have e3 : vs 3 = .agg #[.int .i64 a.letters, .int .i64 a.start, .slice p2 a.next.length q2, .slice p3 a.prio.length q3] := dep_of hD 3 (by rfl)
        clear hK hD ho
        dsimp only
        go_simp
        refine (HRt.out W (HB1.out W hB)).mono ?_
        rintro e W' ⟨u', rfl, hK, hb⟩
        have h := HK.out _ _ hb (hK _ (Only.refl _ _))
        simp only [upd, Nat.reduceEqDiff, reduceIte, e1, e3] at h
        exact h
      | 5, ho =>
        obtain rfl := Option.some.inj ho
        intro vs W K hB hD hK
        have HK := Lib.hid hK
        have e1 : vs 1 = .bool true := dep_of hD 1 (by rfl)
        have e2 : vs 2 = .agg #[.int .i64 t.letters, .int .i64 t.start, .slice at2 t.next.length bt2, .slice at3 t.prio.length bt3] := dep_of hD 2 (by rfl)
        have i4 := dep_of (R := RL1 a t p m d p2 p3 at2 at3 ap2 ap3 am2 am3 ad2 ad3 q2 q3 bt2 bt3 bp2 bp3 bm2 bm3 bd2 bd3) hD 4 (by rfl)
        clear hK hD ho
        dsimp only
        go_simp
        refine (HSt.out W (vs 4) (HB1.out W hB) i4).mono ?_
        rintro e W' ⟨rfl, hb⟩
        have h := HK.out _ _ hb rfl
        simp only [upd, Nat.reduceEqDiff, reduceIte, e1, e2] at h
        exact h
      | 6, ho =>
        obtain rfl := Option.some.inj ho
        intro vs W K hB hD hK
        have HK := Lib.hid hK
        have e1 : vs 1 = .bool true := dep_of hD 1 (by rfl)
        have e5 : vs 5 = .bool true := dep_of hD 5 (by rfl)
        clear hK hD ho
        dsimp only
        go_simp
        have h := HK.out _ _ (Below.refl _ _) rfl
        simp only [upd, Nat.reduceEqDiff, reduceIte, e1, e5] at h
        exact h
      | 7, ho =>
        obtain rfl := Option.some.inj ho
        intro vs W K hB hD hK
        have HK := Lib.hid hK
        have e6 : vs 6 = .bool true := dep_of hD 6 (by rfl)
        clear hK hD ho
        dsimp only
        go_simp
        have h := HK.out _ _ (Below.refl _ _) rfl
        simp only [upd, Nat.reduceEqDiff, reduceIte, e6] at h
        exact h
      | 8, ho =>
        obtain rfl := Option.some.inj ho
        intro vs W K hB hD hK
        have HK := Lib.hid hK
        have e7 : vs 7 = .bool true := dep_of hD 7 (by rfl)
        obtain ⟨d0, d1, d2, d3⟩ := Hp.out W hB
        clear hK hD ho
        dsimp only
        go_simp
        have h := HK.out _ _ (Below.refl _ _) rfl
        simp only [upd, Nat.reduceEqDiff, reduceIte, e7] at h
        exact h
      | 9, ho =>
        obtain rfl := Option.some.inj ho
        intro vs W K hB hD hK
        have HK := Lib.hid hK
        have e7 : vs 7 = .bool true := dep_of hD 7 (by rfl)
        obtain ⟨d0, d1, d2, d3⟩ := HA.out W hB
        clear hK hD ho
        dsimp only
        go_simp
        have h := HK.out _ _ (Below.refl _ _) rfl
        simp only [upd, Nat.reduceEqDiff, reduceIte, e7] at h
        exact h
      | 10, ho =>
        obtain rfl := Option.some.inj ho
        intro vs W K hB hD hK
        have HK := Lib.hid hK
        have e7 : vs 7 = .bool true := dep_of hD 7 (by rfl)
        have e9 : vs 9 = .agg #[.int .i64 a.letters, .int .i64 a.start, .slice p2 a.next.length q2, .slice p3 a.prio.length q3] := dep_of hD 9 (by rfl)
        clear hK hD ho
        dsimp only
        go_simp
        refine (HRp.out W (HB1.out W hB)).mono ?_
        rintro e W' ⟨u', rfl, hu, hb⟩
        have h := HK.out _ _ hb hu
        simp only [upd, Nat.reduceEqDiff, reduceIte, e7, e9] at h
        exact h
      | 11, ho =>
        obtain rfl := Option.some.inj ho
        intro vs W K hB hD hK
        have HK := Lib.hid hK
        have e7 : vs 7 = .bool true := dep_of hD 7 (by rfl)
        have e8 : vs 8 = .agg #[.int .i64 p.letters, .int .i64 p.start, .slice ap2 p.next.length bp2, .slice ap3 p.prio.length bp3] := dep_of hD 8 (by rfl)
        have i10 := dep_of (R := RL1 a t p m d p2 p3 at2 at3 ap2 ap3 am2 am3 ad2 ad3 q2 q3 bt2 bt3 bp2 bp3 bm2 bm3 bd2 bd3) hD 10 (by rfl)
        clear hK hD ho
        dsimp only
        go_simp
        refine (HSp.out W (vs 10) (HB1.out W hB) i10).mono ?_
        rintro e W' ⟨rfl, hb⟩
        have h := HK.out _ _ hb rfl
        simp only [upd, Nat.reduceEqDiff, reduceIte, e7, e8] at h
        exact h
      | 12, ho =>
        obtain rfl := Option.some.inj ho
        intro vs W K hB hD hK
        have HK := Lib.hid hK
        have e7 : vs 7 = .bool true := dep_of hD 7 (by rfl)
        have e11 : vs 11 = .bool true := dep_of hD 11 (by rfl)
        clear hK hD ho
        dsimp only
        go_simp
        have h := HK.out _ _ (Below.refl _ _) rfl
        simp only [upd, Nat.reduceEqDiff, reduceIte, e7, e11] at h
        exact h
      | 13, ho =>
        obtain rfl := Option.some.inj ho
        intro vs W K hB hD hK
        have HK := Lib.hid hK
        have e12 : vs 12 = .bool true := dep_of hD 12 (by rfl)
        clear hK hD ho
        dsimp only
        go_simp
        have h := HK.out _ _ (Below.refl _ _) rfl
        simp only [upd, Nat.reduceEqDiff, reduceIte, e12] at h
        exact h
      | 14, ho =>
        obtain rfl := Option.some.inj ho
        intro vs W K hB hD hK
        have HK := Lib.hid hK
        have e13 : vs 13 = .bool true := dep_of hD 13 (by rfl)
        obtain ⟨d0, d1, d2, d3⟩ := Hm.out W hB
        clear hK hD ho
        dsimp only
        go_simp
        have h := HK.out _ _ (Below.refl _ _) rfl
        simp only [upd, Nat.reduceEqDiff, reduceIte, e13] at h
        exact h
      | 15, ho =>
        obtain rfl := Option.some.inj ho
        intro vs W K hB hD hK
        have HK := Lib.hid hK
        have e13 : vs 13 = .bool true := dep_of hD 13 (by rfl)
        obtain ⟨d0, d1, d2, d3⟩ := HA.out W hB
        clear hK hD ho
        dsimp only
        go_simp
        have h := HK.out _ _ (Below.refl _ _) rfl
        simp only [upd, Nat.reduceEqDiff, reduceIte, e13] at h
        exact h
      | 16, ho =>
        obtain rfl := Option.some.inj ho
        intro vs W K hB hD hK
        have HK := Lib.hid hK
        have e13 : vs 13 = .bool true := dep_of hD 13 (by rfl)
        have e15 : vs 15 = .agg #[.int .i64 a.letters, .int .i64 a.start, .slice p2 a.next.length q2, .slice p3 a.prio.length q3] := dep_of hD 15 (by rfl)
        clear hK hD ho
        dsimp only
        go_simp
        refine (HRm.out W (HB1.out W hB)).mono ?_
        rintro e W' ⟨u', rfl, hK, hb⟩
        have h := HK.out _ _ hb (hK _ (Only.refl _ _))
        simp only [upd, Nat.reduceEqDiff, reduceIte, e13, e15] at h
        exact h
      | 17, ho =>
        obtain rfl := Option.some.inj ho
        intro vs W K hB hD hK
        have HK := Lib.hid hK
        have e13 : vs 13 = .bool true := dep_of hD 13 (by rfl)
        have e14 : vs 14 = .agg #[.int .i64 m.letters, .int .i64 m.start, .slice am2 m.next.length bm2, .slice am3 m.prio.length bm3] := dep_of hD 14 (by rfl)
        have i16 := dep_of (R := RL1 a t p m d p2 p3 at2 at3 ap2 ap3 am2 am3 ad2 ad3 q2 q3 bt2 bt3 bp2 bp3 bm2 bm3 bd2 bd3) hD 16 (by rfl)
        clear hK hD ho
        dsimp only
        go_simp
        refine (HSm.out W (vs 16) (HB1.out W hB) i16).mono ?_
        rintro e W' ⟨rfl, hb⟩
        have h := HK.out _ _ hb rfl
        simp only [upd, Nat.reduceEqDiff, reduceIte, e13, e14] at h
        exact h
      | 18, ho =>
        obtain rfl := Option.some.inj ho
        intro vs W K hB hD hK
        have HK := Lib.hid hK
        have e13 : vs 13 = .bool true := dep_of hD 13 (by rfl)
        have e17 : vs 17 = .bool true := dep_of hD 17 (by rfl)
        clear hK hD ho
        dsimp only
        go_simp
        have h := HK.out _ _ (Below.refl _ _) rfl
        simp only [upd, Nat.reduceEqDiff, reduceIte, e13, e17] at h
        exact h
      | 19, ho =>
        obtain rfl := Option.some.inj ho
        intro vs W K hB hD hK
        have HK := Lib.hid hK
        have e18 : vs 18 = .bool true := dep_of hD 18 (by rfl)
        clear hK hD ho
        dsimp only
        go_simp
        have h := HK.out _ _ (Below.refl _ _) rfl
        simp only [upd, Nat.reduceEqDiff, reduceIte, e18] at h
        exact h
      | 20, ho =>
        obtain rfl := Option.some.inj ho
        intro vs W K hB hD hK
        have HK := Lib.hid hK
        have e19 : vs 19 = .bool true := dep_of hD 19 (by rfl)
        obtain ⟨d0, d1, d2, d3⟩ := Hd.out W hB
        clear hK hD ho
        dsimp only
        go_simp
        have h := HK.out _ _ (Below.refl _ _) rfl
        simp only [upd, Nat.reduceEqDiff, reduceIte, e19] at h
        exact h
      | 21, ho =>
        obtain rfl := Option.some.inj ho
        intro vs W K hB hD hK
        have HK := Lib.hid hK
        have e19 : vs 19 = .bool true := dep_of hD 19 (by rfl)
        obtain ⟨d0, d1, d2, d3⟩ := HA.out W hB
        clear hK hD ho
        dsimp only
        go_simp
        have h := HK.out _ _ (Below.refl _ _) rfl
        simp only [upd, Nat.reduceEqDiff, reduceIte, e19] at h
        exact h
      | 22, ho =>
        obtain rfl := Option.some.inj ho
        intro vs W K hB hD hK
        have HK := Lib.hid hK
        have e19 : vs 19 = .bool true := dep_of hD 19 (by rfl)
        have e21 : vs 21 = .agg #[.int .i64 a.letters, .int .i64 a.start, .slice p2 a.next.length q2, .slice p3 a.prio.length q3] := dep_of hD 21 (by rfl)
        clear hK hD ho
        dsimp only
        go_simp
        refine (HRd.out W (HB1.out W hB)).mono ?_
        rintro e W' ⟨u', rfl, hK, hb⟩
        have h := HK.out _ _ hb (hK _ (Only.refl _ _))
        simp only [upd, Nat.reduceEqDiff, reduceIte, e19, e21] at h
        exact h
      | 23, ho =>
        obtain rfl := Option.some.inj ho
        intro vs W K hB hD hK
        have HK := Lib.hid hK
        have e19 : vs 19 = .bool true := dep_of hD 19 (by rfl)
        have e20 : vs 20 = .agg #[.int .i64 d.letters, .int .i64 d.start, .slice ad2 d.next.length bd2, .slice ad3 d.prio.length bd3] := dep_of hD 20 (by rfl)
        have i22 := dep_of (R := RL1 a t p m d p2 p3 at2 at3 ap2 ap3 am2 am3 ad2 ad3 q2 q3 bt2 bt3 bp2 bp3 bm2 bm3 bd2 bd3) hD 22 (by rfl)
        clear hK hD ho
        dsimp only
        go_simp
        refine (HSd.out W (vs 22) (HB1.out W hB) i22).mono ?_
        rintro e W' ⟨rfl, hb⟩
        have h := HK.out _ _ hb rfl
        simp only [upd, Nat.reduceEqDiff, reduceIte, e19, e20] at h
        exact h
      | 24, ho =>
        obtain rfl := Option.some.inj ho
        intro vs W K hB hD hK
        have HK := Lib.hid hK
        have e19 : vs 19 = .bool true := dep_of hD 19 (by rfl)
        have e23 : vs 23 = .bool true := dep_of hD 23 (by rfl)
        clear hK hD ho
        dsimp only
        go_simp
        have h := HK.out _ _ (Below.refl _ _) rfl
        simp only [upd, Nat.reduceEqDiff, reduceIte, e19, e23] at h
        exact h
      | 25, ho =>
        obtain rfl := Option.some.inj ho
        intro vs W K hB hD hK
        have HK := Lib.hid hK
        have e24 : vs 24 = .bool true := dep_of hD 24 (by rfl)
        clear hK hD ho
        dsimp only
        go_simp
        have h := HK.out _ _ (Below.refl _ _) rfl
        simp only [upd, Nat.reduceEqDiff, reduceIte, e24] at h
        exact h
      | 26, ho =>
        obtain rfl := Option.some.inj ho
        intro vs W K hB hD hK
        have HK := Lib.hid hK
        have e25 : vs 25 = .bool true := dep_of hD 25 (by rfl)
        clear hK hD ho
        dsimp only
        go_simp
        have h := HK.out _ _ (Below.refl _ _) rfl
        simp only [upd, Nat.reduceEqDiff, reduceIte, e25] at h
        exact h
      | 27, ho =>
        obtain rfl := Option.some.inj ho
        intro vs W K hB hD hK
        have HK := Lib.hid hK
        have e25 : vs 25 = .bool true := dep_of hD 25 (by rfl)
        have e26 : vs 26 = .bool true := dep_of hD 26 (by rfl)
        clear hK hD ho
        dsimp only
        go_simp
        have h := HK.out _ _ (Below.refl _ _) rfl
        simp only [upd, Nat.reduceEqDiff, reduceIte, e25, e26] at h
        exact h
      | 28, ho =>
        obtain rfl := Option.some.inj ho
        intro vs W K hB hD hK
        have HK := Lib.hid hK
        have e27 : vs 27 = .bool true := dep_of hD 27 (by rfl)
        clear hK hD ho
        dsimp only
        go_simp
        have h := HK.out _ _ (Below.refl _ _) rfl
        simp only [upd, Nat.reduceEqDiff, reduceIte, e27] at h
        exact h
      | q + 29, ho => exact absurd ho (by simp)
    case fin =>
      intro vs W hB hall
      have e50 : vs 28 = .bool true := hall 28 (by decide)
      have hB5 := HBT.out.trans ((HB1.out W hB).mono HBT.out.size)
      clear hall hB
      rw [e50]
      clear e50
      go_wp2
      go_ret
      exact HE.out _ hB5

end Go.Proofs.Ytdkpdpcecjcmcaa
