/- The law ReducePriorities: its walk. -/
import Derived.Test.YtdkpdpcecjcmcaaRdH2
import Derived.Test.YtdkpdpcecjcmcaaRdH4
import Derived.Test.YtdkpdpcecjcmcaaRdE2
namespace Go.Proofs.Ytdkpdpcecjcmcaa
open Go.RowKit

def RP5 (a b : Au) (p2 a2 a3 : Option Addr) (q2 b2 b3 zxq zhx : Nat) (ix : Nat) (u : Value) (W : World) : Prop :=
  match ix with
  | 0 => u = .pointer (some ⟨zxq, 1, none⟩)
  | 1 => u = .int .i64 a.start
  | 2 => u = .pointer (some ⟨zhx, 1, none⟩)
  | 3 => u = .int .i64 a.start
  | 4 => u = .bool false
  | 5 => u = .bool false
  | 6 => u = .pointer (some ⟨zxq, 2, none⟩)
  | 7 => u = .slice a2 a.next.length b2
  | 8 => u = .int .i64 (a.next.length : Int)
  | 9 => u = .pointer (some ⟨zhx, 2, none⟩)
  | 10 => u = .slice p2 a.next.length q2
  | 11 => u = .int .i64 (a.next.length : Int)
  | 12 => u = .bool false
  | 13 => u = .bool false
  | 14 => u = .bool false
  | 15 => u = .pointer (some ⟨zxq, 3, none⟩)
  | 16 => u = .slice a3 a.next.length b3
  | 17 => u = .int .i64 (a.next.length : Int)
  | 18 => u = .pointer (some ⟨zhx, 2, none⟩)
  | 19 => u = .slice p2 a.next.length q2
  | 20 => u = .int .i64 (a.next.length : Int)
  | 21 => u = .bool false
  | 22 => u = .bool false
  | 23 => u = .bool false
  | 24 => u = .agg #[.int .i64 b.letters, .int .i64 a.start, .slice a2 a.next.length b2, .slice a3 a.next.length b3]
  | 25 => IsAuto W u b
  | 26 => u = .agg #[.int .i64 b.letters, .int .i64 a.start, .slice a2 a.next.length b2, .slice a3 a.next.length b3]
  | 27 => u = .bool true
  | 28 => u = .bool false
  | 29 => u = .bool false
  | _ => True
theorem RP5.below {ix : Nat} {u : Value} {W W' : World} {a b : Au} {p2 a2 a3 : Option Addr} {q2 b2 b3 zxq zhx : Nat} (h : RP5 a b p2 a2 a3 q2 b2 b3 zxq zhx ix u W) (hb : Below W.heap.size W W') : RP5 a b p2 a2 a3 q2 b2 b3 zxq zhx ix u W' := by
  unfold RP5 at *
  split at h <;> first | exact h | trivial | exact IsAuto.below h hb
def RP10 (n k KA q2 b2 b3 bN oN bM oM bP oP bna ona cna bnb onb cnb bpb opb cpb zxq zhx : Nat) (ix : Nat) (u : Value) (_ : World) : Prop :=
  match ix with
  | 0 => u = .pointer (some ⟨zxq, 2, none⟩)
  | 1 => u = .slice (some ⟨bM, oM, none⟩) n b2
  | 2 => u = .int .i64 (k : Int)
  | 3 => u = .pointer (some ⟨bM, oM + k, none⟩)
  | 4 => u = .slice (some ⟨bnb, onb, none⟩) KA cnb
  | 5 => u = .pointer (some ⟨zhx, 2, none⟩)
  | 6 => u = .slice (some ⟨bN, oN, none⟩) n q2
  | 7 => u = .int .i64 (k : Int)
  | 8 => u = .pointer (some ⟨bN, oN + k, none⟩)
  | 9 => u = .slice (some ⟨bna, ona, none⟩) KA cna
  | 10 => u = .bool true
  | 11 => u = .bool false
  | 12 => u = .bool false
  | 13 => u = .pointer (some ⟨zxq, 3, none⟩)
  | 14 => u = .slice (some ⟨bP, oP, none⟩) n b3
  | 15 => u = .int .i64 (k : Int)
  | 16 => u = .pointer (some ⟨bP, oP + k, none⟩)
  | 17 => u = .slice (some ⟨bpb, opb, none⟩) KA cpb
  | 18 => u = .int .i64 (KA : Int)
  | 19 => u = .pointer (some ⟨zhx, 0, none⟩)
  | 20 => u = .int .i64 (KA : Int)
  | 21 => u = .bool false
  | 22 => u = .bool false
  | _ => True
def RP34 (s0 : Option Addr) (k KA q2 bN oN n0 t0 bL oL n1 t1 s' q x' y brx orx crx zhx zhy : Nat) (ix : Nat) (u : Value) (_ : World) : Prop :=
  match ix with
  | 0 => u = .pointer (some ⟨zhx, 2, none⟩)
  | 1 => u = .slice (some ⟨bN, oN, none⟩) k q2
  | 2 => u = .int .i64 (s' : Int)
  | 3 => u = .pointer (some ⟨bN, oN + s', none⟩)
  | 4 => u = .slice (some ⟨brx, orx, none⟩) KA crx
  | 5 => u = .agg #[.slice s0 n0 t0, .slice (some ⟨bL, oL, none⟩) n1 t1]
  | 6 => u = .pointer (some ⟨zhy, 0, none⟩)
  | 7 => u = .slice s0 n0 t0
  | 8 => u = .int .i64 (n0 : Int)
  | 9 => u = .int .i64 (q : Int)
  | 10 => u = .int .i64 ((n0 : Int) + (q : Int))
  | 11 => u = .int .i64 (x' : Int)
  | 12 => u = .pointer (some ⟨brx, orx + x', none⟩)
  | 13 => u = .int .i64 (y : Int)
  | 14 => u = .int .i64 (y : Int)
  | _ => True

set_option maxRecDepth 100000 in
set_option maxHeartbeats 8000000 in
theorem Prio_walk (w : World) (v vl : Value) (a : Au) (l : Ls) (ha : IsAuto w v a) (hl : IsLs w vl l) :
    Calls Try.prog 8 #[v, vl] w (Calm (.bool true) w) := by
  have hmx : Try.prog.follows .mixedOrders = true := by kernel_rfl
  obtain ⟨p2, q2, p3, q3, rfl⟩ := ha.shape
  obtain ⟨s0, t0, s1, t1, rfl⟩ := hl.shp
  go_enter Try.func8, Try.ntmps8
  go_upto_region 1 with (fail)
  obtain ⟨hx, hy, hB⟩ : ((w.alloc (.cells #[.int .i64 a.letters, .int .i64 a.start, .slice p2 a.next.length q2, .slice p3 a.prio.length q3] 24)).alloc (.cells #[.slice s0 l.stem.length t0, .slice s1 l.loop.length t1] 36)).heap[w.heap.size]? = some (.cells #[.int .i64 a.letters, .int .i64 a.start, .slice p2 a.next.length q2, .slice p3 a.prio.length q3] 24 (0, 0)) ∧ ((w.alloc (.cells #[.int .i64 a.letters, .int .i64 a.start, .slice p2 a.next.length q2, .slice p3 a.prio.length q3] 24)).alloc (.cells #[.slice s0 l.stem.length t0, .slice s1 l.loop.length t1] 36)).heap[w.heap.size + 1]? = some (.cells #[.slice s0 l.stem.length t0, .slice s1 l.loop.length t1] 36 (0, 0)) ∧ Below w.heap.size w ((w.alloc (.cells #[.int .i64 a.letters, .int .i64 a.start, .slice p2 a.next.length q2, .slice p3 a.prio.length q3] 24)).alloc (.cells #[.slice s0 l.stem.length t0, .slice s1 l.loop.length t1] 36)) := ⟨(by (repeat (rw [alloc_get]; first | rw [if_pos (by first | (simp; done) | (simp; omega))] | rw [if_neg (by first | (simp; done) | (simp; omega))])); (try rfl)), (by (repeat (rw [alloc_get]; first | rw [if_pos (by first | (simp; done) | (simp; omega))] | rw [if_neg (by first | (simp; done) | (simp; omega))])); (try rfl)), (by repeat (first | exact Below.refl _ _ | assumption | (refine belA ?_ _) | (refine belD ?_ _)))⟩
  replace ha := ha.below hB
  replace hl := hl.below hB
  generalize ((w.alloc (.cells #[.int .i64 a.letters, .int .i64 a.start, .slice p2 a.next.length q2, .slice p3 a.prio.length q3] 24)).alloc (.cells #[.slice s0 l.stem.length t0, .slice s1 l.loop.length t1] 36)) = w1 at *
  have HE : Hid (∀ W, Below w1.heap.size w1 W → Calm (.bool true) w (.returned (.bool true)) W) := fun W h => ⟨rfl, hB.trans (h.mono hB.size)⟩
  clear hB
  generalize w.heap.size + 1 = zhy at *
  generalize w.heap.size = zhx at *
  go_wp2_with fail
  refine (head_c _).mono ?_
  rintro e w2 ⟨rfl, hb⟩
  replace hx := (hb.block _ (Array.getElem?_eq_some_iff.1 hx).1).trans hx
  replace hy := (hb.block _ (Array.getElem?_eq_some_iff.1 hy).1).trans hy
  replace ha := ha.below hb
  replace hl := hl.below hb
  have k0 := cell_of_row _ _ 0 _ _ _ hx
  have k1 := cell_of_row _ _ 1 _ _ _ hx
  have k2 := cell_of_row _ _ 2 _ _ _ hx
  have k3 := cell_of_row _ _ 3 _ _ _ hx
  go_wp2_with fail
  refine (right_c _ _ a ha).mono ?_
  rintro e w3 ⟨rfl, hb3⟩
  replace hx := (hb3.block _ (Array.getElem?_eq_some_iff.1 hx).1).trans hx
  replace hy := (hb3.block _ (Array.getElem?_eq_some_iff.1 hy).1).trans hy
  replace ha := ha.below hb3
  replace hl := hl.below hb3
  replace hb := hb.trans (hb3.mono hb.size)
  clear hb3 k0 k1 k2 k3
  cases hR : rightA a
  · go_wp2_with fail
    go_ret
    exact HE.out _ hb
  have HV : Hid (AuV a a.letters.toNat ∧ a.next.length ≤ 14) := right_v hR
  clear hR
  have k0 := cell_of_row _ _ 0 _ _ _ hx
  have k1 := cell_of_row _ _ 1 _ _ _ hx
  have k2 := cell_of_row _ _ 2 _ _ _ hx
  have k3 := cell_of_row _ _ 3 _ _ _ hx
  have j0 := cell_of_row _ _ 0 _ _ _ hy
  have j1 := cell_of_row _ _ 1 _ _ _ hy
  have HI : I64 a.letters := HV.out.1.i64.1
  go_wp2_with fail
  refine (WRValid_c _ _ l a.letters hl).mono ?_
  rintro e w4 ⟨rfl, hb3⟩
  replace hx := (hb3.block _ (Array.getElem?_eq_some_iff.1 hx).1).trans hx
  replace hy := (hb3.block _ (Array.getElem?_eq_some_iff.1 hy).1).trans hy
  replace ha := ha.below hb3
  replace hl := hl.below hb3
  replace hb := hb.trans (hb3.mono hb.size)
  clear hb3 k0 k1 k2 k3 j0 j1 HI
  have j0 := cell_of_row _ _ 0 _ _ _ hy
  have j1 := cell_of_row _ _ 1 _ _ _ hy
  cases hW : validI a.letters l
  · go_wp2_with fail
    go_ret
    exact HE.out _ hb
  have HW := Lib.hid hW
  clear hW
  have HLs : Hid (l.stem.length ≤ 60 ∧ l.loop.length ≤ 40) := by
    have := HW.out
    simp only [validI, Bool.and_eq_true] at this
    have := (formB_iff l).1 this.1.1
    exact ⟨this.1, this.2.2.1⟩
  obtain ⟨n0, hn0⟩ : ∃ n, l.stem.length = n := ⟨_, rfl⟩
  obtain ⟨n1, hn1⟩ : ∃ n, l.loop.length = n := ⟨_, rfl⟩
  have HN0 := Lib.hid hn0
  have HN1 := Lib.hid hn1
  have hbd := HLs.out
  rw [hn0, hn1] at hbd hy hl
  rw [hn0] at j0
  rw [hn1] at j1
  rw [hn0, hn1]
  clear hn0 hn1 HLs
  by_cases hs : n0 + n1 ≤ 16
  case neg =>
    have hgt : decide ((16 : Int) < (n0 : Int) + (n1 : Int)) = true := decide_eq_true (by omega)
    have hgt2 : (16 : Int) < (n0 : Int) + (n1 : Int) := by omega
    go_wp2_with fail
    go_ret
    exact HE.out _ hb
  have hgt : decide ((16 : Int) < (n0 : Int) + (n1 : Int)) = false := decide_eq_false (by omega)
  have hgt2 : ¬ (16 : Int) < (n0 : Int) + (n1 : Int) := by omega
  have HN : a.next.length ≤ 2000 := by have := HV.out.2; omega
  have k0 := cell_of_row _ _ 0 _ _ _ hx
  have k1 := cell_of_row _ _ 1 _ _ _ hx
  have k2 := cell_of_row _ _ 2 _ _ _ hx
  have k3 := cell_of_row _ _ 3 _ _ _ hx
  go_wp2_with fail
  refine (Prios_c _ _ a ha HN).mono ?_
  rintro e w5 ⟨vhq, rfl, hK, hb3⟩
  have hq := hK _ (Only.refl _ _)
  replace hx := (hb3.block _ (Array.getElem?_eq_some_iff.1 hx).1).trans hx
  replace hy := (hb3.block _ (Array.getElem?_eq_some_iff.1 hy).1).trans hy
  replace ha := ha.below hb3
  replace hl := hl.below hb3
  replace hb := hb.trans (hb3.mono hb.size)
  clear hb3 hK k0 k1 k2 k3 HN j0 j1 hgt hgt2
  obtain ⟨b, hbb⟩ : ∃ t, priosF a = t := ⟨_, rfl⟩
  rw [hbb] at hq
  have HBB : Hid (b = priosA a) := by
    show _ = _
    rw [← hbb]; unfold priosF; rw [if_pos HV.out.1.valid]
  have HBF := Lib.hid hbb
  clear hbb
  obtain ⟨a2, b2, a3, b3, rfl⟩ := hq.shape
  go_upto_region 5 with (fail)
  obtain ⟨xq, hb3, -⟩ := box_new hb hb.size #[.int .i64 b.letters, .int .i64 b.start, .slice a2 b.next.length b2, .slice a3 b.prio.length b3] 24
  replace hx := (hb3.block _ (Array.getElem?_eq_some_iff.1 hx).1).trans hx
  replace hy := (hb3.block _ (Array.getElem?_eq_some_iff.1 hy).1).trans hy
  replace ha := ha.below hb3
  replace hl := hl.below hb3
  replace hq := hq.below hb3
  replace hb := hb.trans (hb3.mono hb.size)
  generalize w5.alloc (.cells #[.int .i64 b.letters, .int .i64 b.start, .slice a2 b.next.length b2, .slice a3 b.prio.length b3] 24) = w6 at *
  generalize w5.heap.size = zxq at *
  clear hb3
  have HB1 : Hid (∀ W, Below w6.drew.heap.size w6.drew W → Below w6.heap.size w6 W) := fun W h => (Below.drew (B := w6.heap.size) (Below.refl _ _)).trans h
  have HA : Hid (∀ W, Below w6.drew.heap.size w6.drew W → W.cell? ⟨zhx, 0, none⟩ = some (.int .i64 a.letters) ∧ W.cell? ⟨zhx, 1, none⟩ = some (.int .i64 a.start) ∧ W.cell? ⟨zhx, 2, none⟩ = some (.slice p2 a.next.length q2) ∧ W.cell? ⟨zhx, 3, none⟩ = some (.slice p3 a.prio.length q3)) := fun W h => by
    have k := ((HB1.out W h).block _ (Array.getElem?_eq_some_iff.1 hx).1).trans hx
    exact ⟨cell_of_row _ _ 0 _ _ _ k, cell_of_row _ _ 1 _ _ _ k, cell_of_row _ _ 2 _ _ _ k, cell_of_row _ _ 3 _ _ _ k⟩
  have HQ : Hid (∀ W, Below w6.drew.heap.size w6.drew W → W.cell? ⟨zxq, 0, none⟩ = some (.int .i64 b.letters) ∧ W.cell? ⟨zxq, 1, none⟩ = some (.int .i64 b.start) ∧ W.cell? ⟨zxq, 2, none⟩ = some (.slice a2 b.next.length b2) ∧ W.cell? ⟨zxq, 3, none⟩ = some (.slice a3 b.prio.length b3)) := fun W h => by
    have k := ((HB1.out W h).block _ (Array.getElem?_eq_some_iff.1 xq).1).trans xq
    exact ⟨cell_of_row _ _ 0 _ _ _ k, cell_of_row _ _ 1 _ _ _ k, cell_of_row _ _ 2 _ _ _ k, cell_of_row _ _ 3 _ _ _ k⟩
  have HPr : Hid (∀ W, Below w6.heap.size w6 W → Calls Try.prog 13 #[.agg #[.int .i64 b.letters, .int .i64 b.start, .slice a2 b.next.length b2, .slice a3 b.prio.length b3]] W (NewAuto b W)) := fun W h => by
    have h2 : priosF b = b := by
      have h1 := priosF_idem HV.out.1
      rw [HBF.out] at h1; exact h1
    have k := Prios_c W _ b (hq.below h) (by rw [HBB.out]; show a.next.length ≤ _; have := HV.out.2; omega)
    rw [h2] at k
    exact k
  have HSm : Hid (∀ W u, Below w6.heap.size w6 W → IsAuto W u b → Calls Try.prog 18 #[u, .agg #[.int .i64 b.letters, .int .i64 b.start, .slice a2 b.next.length b2, .slice a3 b.prio.length b3]] W (Calm (.bool true) W)) := fun W u h hu => by
    have k := Same_c W _ _ b b hu (hq.below h)
    rwa [show decide (b = b) = true from decide_eq_true rfl] at k
  have hle : b.start = a.start ∧ b.next.length = a.next.length ∧ b.prio.length = a.next.length := by
    rw [HBB.out]; exact ⟨rfl, rfl, by simp [priosA]⟩
  rw [hle.1, hle.2.1, hle.2.2] at HQ HSm HPr
  rw [hle.1, hle.2.1, hle.2.2] at xq hq
  have y1 : (a.start != a.start) = false := by simp
  have y2 : ((a.next.length : Int) != (a.next.length : Int)) = false := by simp
  have y3 : (a.next.length != a.next.length) = false := by simp
  have hpn := HV.out.1.pn
  have HBT := Lib.hid hb
  have HXX := Lib.hid (And.intro hx (And.intro hy xq))
  have HII := Lib.hid (And.intro ha (And.intro hl hq))
  clear hle hb hx hy xq ha hl hq hs hpn
  refine region_stable hmx (RP5 a b p2 a2 a3 q2 b2 b3 zxq zhx) (fun vs => { tmps := (_ :: _ :: _ :: _ :: _ :: _ :: _ :: _ :: _ :: _ :: _ :: _ :: _ :: _ :: _ :: _ :: _ :: _ :: _ :: _ :: _ :: _ :: _ :: _ :: _ :: _ :: _ :: _ :: _ :: _ :: _ :: _ :: _ :: _ :: _ :: _ :: _ :: _ :: _ :: vs 0 :: vs 1 :: vs 2 :: vs 3 :: vs 4 :: vs 5 :: vs 6 :: vs 7 :: vs 8 :: vs 9 :: vs 10 :: vs 11 :: vs 12 :: vs 13 :: vs 14 :: vs 15 :: vs 16 :: vs 17 :: vs 18 :: vs 19 :: vs 20 :: vs 21 :: vs 22 :: vs 23 :: vs 24 :: vs 25 :: vs 26 :: vs 27 :: vs 28 :: vs 29 :: _ :: _ :: _ :: _ :: _ :: _ :: _ :: _ :: _ :: _ :: _ :: _ :: _ :: _ :: _ :: _ :: _ :: _ :: _ :: _ :: _ :: _ :: _ :: _ :: _ :: _ :: _ :: _ :: _ :: _ :: _ :: _ :: _ :: _ :: _ :: _ :: _ :: _ :: _ :: _ :: _ :: _ :: _ :: _ :: _ :: _ :: _ :: _ :: _ :: _ :: _ :: _ :: _ :: _ :: _ :: _ :: _ :: _ :: _ :: _ :: _ :: _ :: _ :: _ :: _ :: _ :: _ :: _ :: _ :: _ :: _ :: _ :: _ :: _ :: _ :: _ :: _ :: _ :: _ :: _ :: _ :: _ :: _ :: _ :: _ :: _ :: _ :: _ :: _ :: _ :: _ :: _ :: _ :: _ :: _ :: _ :: _ :: _ :: _ :: _ :: _ :: _ :: _ :: _ :: _ :: _ :: _ :: _ :: _ :: _ :: _ :: _ :: _ :: _ :: _ :: _ :: _ :: _ :: _ :: _ :: _ :: _ :: _ :: _ :: _ :: _ :: _ :: _ :: _ :: _ :: _ :: _ :: _ :: _ :: _ :: _ :: _ :: _ :: []).toArray, defers := _ }) (fun _ => undef) rfl (by kernel_rfl) (fun _ _ _ _ h hb => h.below hb) ?step ?fin
  case step =>
    as_aux_lemma =>
    intro ix o ho
    match ix, ho with
    | 0, ho =>
      obtain rfl := Option.some.inj ho
      intro vs W K hB hD hK
      have HK := Lib.hid hK
      clear hK hD ho
      dsimp only
      go_simp
      have h := HK.out _ _ (Below.refl _ _) rfl
      simp only [upd, Nat.reduceEqDiff, reduceIte] at h
      exact h
    | 1, ho =>
      obtain rfl := Option.some.inj ho
      intro vs W K hB hD hK
      have HK := Lib.hid hK
      have e0 : vs 0 = .pointer (some ⟨zxq, 1, none⟩) := dep_of hD 0 (by rfl)
      obtain ⟨d0, d1, d2, d3⟩ := HQ.out W hB
      clear hK hD ho
      dsimp only
      go_simp
      have h := HK.out _ _ (Below.refl _ _) rfl
      simp only [upd, Nat.reduceEqDiff, reduceIte, e0] at h
      exact h
    | 2, ho =>
      obtain rfl := Option.some.inj ho
      intro vs W K hB hD hK
      have HK := Lib.hid hK
      clear hK hD ho
      dsimp only
      go_simp
      have h := HK.out _ _ (Below.refl _ _) rfl
      simp only [upd, Nat.reduceEqDiff, reduceIte] at h
      exact h
    | 3, ho =>
      obtain rfl := Option.some.inj ho
      intro vs W K hB hD hK
      have HK := Lib.hid hK
      have e2 : vs 2 = .pointer (some ⟨zhx, 1, none⟩) := dep_of hD 2 (by rfl)
      obtain ⟨d0, d1, d2, d3⟩ := HA.out W hB
      clear hK hD ho
      dsimp only
      go_simp
      have h := HK.out _ _ (Below.refl _ _) rfl
      simp only [upd, Nat.reduceEqDiff, reduceIte, e2] at h
      exact h
    | 4, ho =>
      obtain rfl := Option.some.inj ho
      intro vs W K hB hD hK
      have HK := Lib.hid hK
      have e1 : vs 1 = .int .i64 a.start := dep_of hD 1 (by rfl)
      have e3 : vs 3 = .int .i64 a.start := dep_of hD 3 (by rfl)
      clear hK hD ho
      dsimp only
      go_simp
      have h := HK.out _ _ (Below.refl _ _) rfl
      simp only [upd, Nat.reduceEqDiff, reduceIte, e1, e3] at h
      exact h
    | 5, ho =>
      obtain rfl := Option.some.inj ho
      intro vs W K hB hD hK
      have HK := Lib.hid hK
      have e4 : vs 4 = .bool false := dep_of hD 4 (by rfl)
      clear hK hD ho
      dsimp only
      go_simp
      have h := HK.out _ _ (Below.refl _ _) rfl
      simp only [upd, Nat.reduceEqDiff, reduceIte, e4] at h
      exact h
    | 6, ho =>
      obtain rfl := Option.some.inj ho
      intro vs W K hB hD hK
      have HK := Lib.hid hK
      have e5 : vs 5 = .bool false := dep_of hD 5 (by rfl)
      clear hK hD ho
      dsimp only
      go_simp
      have h := HK.out _ _ (Below.refl _ _) rfl
      simp only [upd, Nat.reduceEqDiff, reduceIte, e5] at h
      exact h
    | 7, ho =>
      obtain rfl := Option.some.inj ho
      intro vs W K hB hD hK
      have HK := Lib.hid hK
      have e5 : vs 5 = .bool false := dep_of hD 5 (by rfl)
      have e6 : vs 6 = .pointer (some ⟨zxq, 2, none⟩) := dep_of hD 6 (by rfl)
      obtain ⟨d0, d1, d2, d3⟩ := HQ.out W hB
      clear hK hD ho
      dsimp only
      go_simp
      have h := HK.out _ _ (Below.refl _ _) rfl
      simp only [upd, Nat.reduceEqDiff, reduceIte, e5, e6] at h
      exact h
    | 8, ho =>
      obtain rfl := Option.some.inj ho
      intro vs W K hB hD hK
      have HK := Lib.hid hK
      have e5 : vs 5 = .bool false := dep_of hD 5 (by rfl)
      have e7 : vs 7 = .slice a2 a.next.length b2 := dep_of hD 7 (by rfl)
      clear hK hD ho
      dsimp only
      go_simp
      have h := HK.out _ _ (Below.refl _ _) rfl
      simp only [upd, Nat.reduceEqDiff, reduceIte, e5, e7] at h
      exact h
    | 9, ho =>
      obtain rfl := Option.some.inj ho
      intro vs W K hB hD hK
      have HK := Lib.hid hK
      have e5 : vs 5 = .bool false := dep_of hD 5 (by rfl)
      clear hK hD ho
      dsimp only
      go_simp
      have h := HK.out _ _ (Below.refl _ _) rfl
      simp only [upd, Nat.reduceEqDiff, reduceIte, e5] at h
      exact h
    | 10, ho =>
      obtain rfl := Option.some.inj ho
      intro vs W K hB hD hK
      have HK := Lib.hid hK
      have e5 : vs 5 = .bool false := dep_of hD 5 (by rfl)
      have e9 : vs 9 = .pointer (some ⟨zhx, 2, none⟩) := dep_of hD 9 (by rfl)
      obtain ⟨d0, d1, d2, d3⟩ := HA.out W hB
      clear hK hD ho
      dsimp only
      go_simp
      have h := HK.out _ _ (Below.refl _ _) rfl
      simp only [upd, Nat.reduceEqDiff, reduceIte, e5, e9] at h
      exact h
    | 11, ho =>
      obtain rfl := Option.some.inj ho
      intro vs W K hB hD hK
      have HK := Lib.hid hK
      have e5 : vs 5 = .bool false := dep_of hD 5 (by rfl)
      have e10 : vs 10 = .slice p2 a.next.length q2 := dep_of hD 10 (by rfl)
      clear hK hD ho
      dsimp only
      go_simp
      have h := HK.out _ _ (Below.refl _ _) rfl
      simp only [upd, Nat.reduceEqDiff, reduceIte, e5, e10] at h
      exact h
    | 12, ho =>
      obtain rfl := Option.some.inj ho
      intro vs W K hB hD hK
      have HK := Lib.hid hK
      have e5 : vs 5 = .bool false := dep_of hD 5 (by rfl)
      have e8 : vs 8 = .int .i64 (a.next.length : Int) := dep_of hD 8 (by rfl)
      have e11 : vs 11 = .int .i64 (a.next.length : Int) := dep_of hD 11 (by rfl)
      clear hK hD ho
      dsimp only
      go_simp
      have h := HK.out _ _ (Below.refl _ _) rfl
      simp only [upd, Nat.reduceEqDiff, reduceIte, e5, e8, e11] at h
      exact h
    | 13, ho =>
      obtain rfl := Option.some.inj ho
      intro vs W K hB hD hK
      have HK := Lib.hid hK
      have e5 : vs 5 = .bool false := dep_of hD 5 (by rfl)
      have e12 : vs 12 = .bool false := dep_of hD 12 (by rfl)
      clear hK hD ho
      dsimp only
      go_simp
      have h := HK.out _ _ (Below.refl _ _) rfl
      simp only [upd, Nat.reduceEqDiff, reduceIte, e5, e12] at h
      exact h
    | 14, ho =>
      obtain rfl := Option.some.inj ho
      intro vs W K hB hD hK
      have HK := Lib.hid hK
      have e13 : vs 13 = .bool false := dep_of hD 13 (by rfl)
      clear hK hD ho
      dsimp only
      go_simp
      have h := HK.out _ _ (Below.refl _ _) rfl
      simp only [upd, Nat.reduceEqDiff, reduceIte, e13] at h
      exact h
    | 15, ho =>
      obtain rfl := Option.some.inj ho
      intro vs W K hB hD hK
      have HK := Lib.hid hK
      have e14 : vs 14 = .bool false := dep_of hD 14 (by rfl)
      clear hK hD ho
      dsimp only
      go_simp
      have h := HK.out _ _ (Below.refl _ _) rfl
      simp only [upd, Nat.reduceEqDiff, reduceIte, e14] at h
      exact h
    | 16, ho =>
      obtain rfl := Option.some.inj ho
      intro vs W K hB hD hK
      have HK := Lib.hid hK
      have e14 : vs 14 = .bool false := dep_of hD 14 (by rfl)
      have e15 : vs 15 = .pointer (some ⟨zxq, 3, none⟩) := dep_of hD 15 (by rfl)
      obtain ⟨d0, d1, d2, d3⟩ := HQ.out W hB
      clear hK hD ho
      dsimp only
      go_simp
      have h := HK.out _ _ (Below.refl _ _) rfl
      simp only [upd, Nat.reduceEqDiff, reduceIte, e14, e15] at h
      exact h
    | 17, ho =>
      obtain rfl := Option.some.inj ho
      intro vs W K hB hD hK
      have HK := Lib.hid hK
      have e14 : vs 14 = .bool false := dep_of hD 14 (by rfl)
      have e16 : vs 16 = .slice a3 a.next.length b3 := dep_of hD 16 (by rfl)
      clear hK hD ho
      dsimp only
      go_simp
      have h := HK.out _ _ (Below.refl _ _) rfl
      simp only [upd, Nat.reduceEqDiff, reduceIte, e14, e16] at h
      exact h
    | 18, ho =>
      obtain rfl := Option.some.inj ho
      intro vs W K hB hD hK
      have HK := Lib.hid hK
      have e14 : vs 14 = .bool false := dep_of hD 14 (by rfl)
      clear hK hD ho
      dsimp only
      go_simp
      have h := HK.out _ _ (Below.refl _ _) rfl
      simp only [upd, Nat.reduceEqDiff, reduceIte, e14] at h
      exact h
    | 19, ho =>
      obtain rfl := Option.some.inj ho
      intro vs W K hB hD hK
      have HK := Lib.hid hK
      have e14 : vs 14 = .bool false := dep_of hD 14 (by rfl)
      have e18 : vs 18 = .pointer (some ⟨zhx, 2, none⟩) := dep_of hD 18 (by rfl)
      obtain ⟨d0, d1, d2, d3⟩ := HA.out W hB
      clear hK hD ho
      dsimp only
      go_simp
      have h := HK.out _ _ (Below.refl _ _) rfl
      simp only [upd, Nat.reduceEqDiff, reduceIte, e14, e18] at h
      exact h
    | 20, ho =>
      obtain rfl := Option.some.inj ho
      intro vs W K hB hD hK
      have HK := Lib.hid hK
      have e14 : vs 14 = .bool false := dep_of hD 14 (by rfl)
      have e19 : vs 19 = .slice p2 a.next.length q2 := dep_of hD 19 (by rfl)
      clear hK hD ho
      dsimp only
      go_simp
      have h := HK.out _ _ (Below.refl _ _) rfl
      simp only [upd, Nat.reduceEqDiff, reduceIte, e14, e19] at h
      exact h
    | 21, ho =>
      obtain rfl := Option.some.inj ho
      intro vs W K hB hD hK
      have HK := Lib.hid hK
      have e14 : vs 14 = .bool false := dep_of hD 14 (by rfl)
      have e17 : vs 17 = .int .i64 (a.next.length : Int) := dep_of hD 17 (by rfl)
      have e20 : vs 20 = .int .i64 (a.next.length : Int) := dep_of hD 20 (by rfl)
      clear hK hD ho
      dsimp only
      go_simp
      have h := HK.out _ _ (Below.refl _ _) rfl
      simp only [upd, Nat.reduceEqDiff, reduceIte, e14, e17, e20] at h
      exact h
    | 22, ho =>
      obtain rfl := Option.some.inj ho
      intro vs W K hB hD hK
      have HK := Lib.hid hK
      have e14 : vs 14 = .bool false := dep_of hD 14 (by rfl)
      have e21 : vs 21 = .bool false := dep_of hD 21 (by rfl)
      clear hK hD ho
      dsimp only
      go_simp
      have h := HK.out _ _ (Below.refl _ _) rfl
      simp only [upd, Nat.reduceEqDiff, reduceIte, e14, e21] at h
      exact h
    | 23, ho =>
      obtain rfl := Option.some.inj ho
      intro vs W K hB hD hK
      have HK := Lib.hid hK
      have e22 : vs 22 = .bool false := dep_of hD 22 (by rfl)
      clear hK hD ho
      dsimp only
      go_simp
      have h := HK.out _ _ (Below.refl _ _) rfl
      simp only [upd, Nat.reduceEqDiff, reduceIte, e22] at h
      exact h
    | 24, ho =>
      obtain rfl := Option.some.inj ho
      intro vs W K hB hD hK
      have HK := Lib.hid hK
      have e23 : vs 23 = .bool false := dep_of hD 23 (by rfl)
      obtain ⟨d0, d1, d2, d3⟩ := HQ.out W hB
      clear hK hD ho
      dsimp only
      go_simp
      have h := HK.out _ _ (Below.refl _ _) rfl
      simp only [upd, Nat.reduceEqDiff, reduceIte, e23] at h
      exact h
    | 25, ho =>
      obtain rfl := Option.some.inj ho
      intro vs W K hB hD hK
      have HK := Lib.hid hK
      have e23 : vs 23 = .bool false := dep_of hD 23 (by rfl)
      have e24 : vs 24 = .agg #[.int .i64 b.letters, .int .i64 a.start, .slice a2 a.next.length b2, .slice a3 a.next.length b3] := dep_of hD 24 (by rfl)
      clear hK hD ho
      dsimp only
      go_simp
      refine (HPr.out W (HB1.out W hB)).mono ?_
      rintro e W' ⟨u', rfl, hK, hb⟩
      have h := HK.out _ _ hb (hK _ (Only.refl _ _))
      simp only [upd, Nat.reduceEqDiff, reduceIte, e23, e24] at h
      exact h
    | 26, ho =>
      obtain rfl := Option.some.inj ho
      intro vs W K hB hD hK
      have HK := Lib.hid hK
      have e23 : vs 23 = .bool false := dep_of hD 23 (by rfl)
      obtain ⟨d0, d1, d2, d3⟩ := HQ.out W hB
      clear hK hD ho
      dsimp only
      go_simp
      have h := HK.out _ _ (Below.refl _ _) rfl
      simp only [upd, Nat.reduceEqDiff, reduceIte, e23] at h
      exact h
    | 27, ho =>
      obtain rfl := Option.some.inj ho
      intro vs W K hB hD hK
      have HK := Lib.hid hK
      have e23 : vs 23 = .bool false := dep_of hD 23 (by rfl)
      have i25 := dep_of (R := RP5 a b p2 a2 a3 q2 b2 b3 zxq zhx) hD 25 (by rfl)
      have e26 : vs 26 = .agg #[.int .i64 b.letters, .int .i64 a.start, .slice a2 a.next.length b2, .slice a3 a.next.length b3] := dep_of hD 26 (by rfl)
      clear hK hD ho
      dsimp only
      go_simp
      refine (HSm.out W (vs 25) (HB1.out W hB) i25).mono ?_
      rintro e W' ⟨rfl, hb⟩
      have h := HK.out _ _ hb rfl
      simp only [upd, Nat.reduceEqDiff, reduceIte, e23, e26] at h
      exact h
    | 28, ho =>
      obtain rfl := Option.some.inj ho
      intro vs W K hB hD hK
      have HK := Lib.hid hK
      have e23 : vs 23 = .bool false := dep_of hD 23 (by rfl)
      have e27 : vs 27 = .bool true := dep_of hD 27 (by rfl)
      clear hK hD ho
      dsimp only
      go_simp
      have h := HK.out _ _ (Below.refl _ _) rfl
      simp only [upd, Nat.reduceEqDiff, reduceIte, e23, e27] at h
      exact h
    | 29, ho =>
      obtain rfl := Option.some.inj ho
      intro vs W K hB hD hK
      have HK := Lib.hid hK
      have e23 : vs 23 = .bool false := dep_of hD 23 (by rfl)
      have e28 : vs 28 = .bool false := dep_of hD 28 (by rfl)
      clear hK hD ho
      dsimp only
      go_simp
      have h := HK.out _ _ (Below.refl _ _) rfl
      simp only [upd, Nat.reduceEqDiff, reduceIte, e23, e28] at h
      exact h
    | q + 30, ho => exact absurd ho (by simp)
  case fin =>
    as_aux_lemma =>
    intro vs w9 hB hall
    have e34 : vs 29 = .bool false := hall 29 (by decide)
    have hB9 := HB1.out _ hB
    have HB9 := Lib.hid (HBT.out.trans (hB9.mono HBT.out.size))
    have hx := (hB9.block _ (Array.getElem?_eq_some_iff.1 HXX.out.1).1).trans HXX.out.1
    have hy := (hB9.block _ (Array.getElem?_eq_some_iff.1 HXX.out.2.1).1).trans HXX.out.2.1
    have xq := (hB9.block _ (Array.getElem?_eq_some_iff.1 HXX.out.2.2).1).trans HXX.out.2.2
    have ha := HII.out.1.below hB9
    have hl := HII.out.2.1.below hB9
    have hq := HII.out.2.2.below hB9
    clear hall hB hB9 HB1 HA HQ HPr HSm y1 y2 y3 HXX HII HBT
    rw [e34]
    clear e34
    generalize vs 0 = g0
    generalize vs 1 = g1
    generalize vs 2 = g2
    generalize vs 3 = g3
    generalize vs 4 = g4
    generalize vs 5 = g5
    generalize vs 6 = g6
    generalize vs 7 = g7
    generalize vs 8 = g8
    generalize vs 9 = g9
    generalize vs 10 = g10
    generalize vs 11 = g11
    generalize vs 12 = g12
    generalize vs 13 = g13
    generalize vs 14 = g14
    generalize vs 15 = g15
    generalize vs 16 = g16
    generalize vs 17 = g17
    generalize vs 18 = g18
    generalize vs 19 = g19
    generalize vs 20 = g20
    generalize vs 21 = g21
    generalize vs 22 = g22
    generalize vs 23 = g23
    generalize vs 24 = g24
    generalize vs 25 = g25
    generalize vs 26 = g26
    generalize vs 27 = g27
    generalize vs 28 = g28
    clear vs
    have hpn := HV.out.1.pn
    rw [hpn] at hx ha
    obtain ⟨u2, u3, eu, -, hu2, hu3⟩ := id ha
    obtain ⟨rfl, rfl⟩ : Value.slice p2 a.next.length q2 = u2 ∧ Value.slice p3 a.next.length q3 = u3 := by simpa using eu
    obtain ⟨v2, v3, ev, -, hv2, hv3⟩ := id hq
    obtain ⟨-, rfl, rfl⟩ : a.start = b.start ∧ Value.slice a2 a.next.length b2 = v2 ∧ Value.slice a3 a.next.length b3 = v3 := by simpa using ev
    obtain ⟨-, hn2, bN, oN, hd2, HNa0⟩ := hu2.at3
    obtain ⟨-, -, bM, oM, hd3, HNb0⟩ := hv2.at3
    obtain ⟨-, -, bP, oP, hd4, HPb0⟩ := hv3.at3
    have h0 := HV.out.1.n1
    obtain rfl := hd2 (by omega)
    obtain rfl := hd3 (by omega)
    obtain rfl := hd4 (by omega)
    have HNa := Lib.hid HNa0
    have HNb := Lib.hid HNb0
    have HPb := Lib.hid HPb0
    obtain ⟨hls, hll⟩ := IsLs.parts hl
    obtain ⟨bS, oS, hdS, hnS, HS0⟩ := hls.dat
    obtain ⟨bL, oL, hdL, hnL, HL0⟩ := hll.dat
    have HSt := Lib.hid HS0
    have HLo := Lib.hid HL0
    have HXX := Lib.hid (And.intro hx (And.intro hy xq))
    have HII := Lib.hid (And.intro ha (And.intro hl hq))
    clear HNa0 HNb0 HPb0 HS0 HL0 eu ev hu2 hu3 hv2 hv3 hd2 hd3 hd4 hls hll hx hy ha hl hq hpn
    obtain ⟨KA, hK⟩ : ∃ KA, a.letters.toNat = KA := ⟨_, rfl⟩
    have HAK : Hid (AuV a KA) := by show AuV _ _; rw [← hK]; exact HV.out.1
    have hLK := HAK.out.L
    have HLK := Lib.hid hLK
    have hK1 := HAK.out.k1
    have hBL : b.letters = (KA : Int) := by rw [HBB.out]; exact hLK
    rw [hLK] at HXX HII HW
    rw [hBL] at HXX HII
    have hn14 : a.next.length ≤ 14 := HV.out.2
    clear hK hLK hBL HV
    obtain ⟨n, hnn⟩ : ∃ n, a.next.length = n := ⟨_, rfl⟩
    have HNN := Lib.hid hnn
    rw [hnn] at HXX HII HNa HNb HPb h0 hn2 hn14
    clear hnn
    have HRW : Hid (∀ i, i < n → (a.next.getD i []).length = KA ∧ (b.next.getD i []) = a.next.getD i [] ∧ (b.prio.getD i []).length = KA ∧ ∀ x, x < KA → 0 ≤ (b.prio.getD i []).getD x 0 ∧ (b.prio.getD i []).getD x 0 ≤ ((n * KA : Nat) : Int)) := fun i hi => by
      have hi2 : i < a.next.length := by rw [HNN.out]; exact hi
      refine ⟨(HAK.out.ln i hi2).1, by rw [HBB.out]; rfl, by rw [HBB.out]; exact (HAK.out.prios.ln i hi2).2, fun x hx => ?_⟩
      have := prios_bd HAK.out hi2 hx
      rw [HNN.out] at this
      rw [HBB.out]; exact ⟨this.1, this.2.1⟩
    have HX9 := Lib.hid HXX.out.1
    have HQ9 := Lib.hid HXX.out.2.2
    have k2q := cell_of_row _ _ 2 _ _ _ HQ9.out
    go_upto_region 8 with (fail)
    clear k2q
    go_loopg [7] n (fun gh i wr => ∃ k : Nat, gh = n - k ∧ i = .int .i64 (k : Int) ∧ k ≤ n ∧ Below w9.heap.size w9 wr)
    case atStart => exact ⟨0, rfl, rfl, by omega, Below.refl _ _⟩
    case round =>
      obtain ⟨k, hgk, rfl, hk, hB⟩ := hrel
      have HGK := Lib.hid hgk
      have HB := Lib.hid hB
      clear hgk
      have xq := (hB.block _ (Array.getElem?_eq_some_iff.1 HQ9.out).1).trans HQ9.out
      have k2q := cell_of_row _ _ 2 _ _ _ xq
      clear xq hB
      by_cases hlt : k < n
      · as_aux_lemma =>
        have hk1 : (k : Int) < (n : Int) := by omega
        go_upto_region 10 with (fail)
        clear k2q
        have HB1 : Hid (∀ W, Below wr.drew.heap.size wr.drew W → Below wr.heap.size wr W) := fun W h => (Below.drew (B := wr.heap.size) (Below.refl _ _)).trans h
        have HA : Hid (∀ W, Below wr.drew.heap.size wr.drew W → W.cell? ⟨zhx, 0, none⟩ = some (.int .i64 (KA : Int)) ∧ W.cell? ⟨zhx, 1, none⟩ = some (.int .i64 a.start) ∧ W.cell? ⟨zhx, 2, none⟩ = some (.slice (some ⟨bN, oN, none⟩) n q2) ∧ W.cell? ⟨zhx, 3, none⟩ = some (.slice p3 n q3)) := fun W h => by
          have k := (((HB.out.trans ((HB1.out W h).mono HB.out.size)).block _ (Array.getElem?_eq_some_iff.1 HX9.out).1)).trans HX9.out
          exact ⟨cell_of_row _ _ 0 _ _ _ k, cell_of_row _ _ 1 _ _ _ k, cell_of_row _ _ 2 _ _ _ k, cell_of_row _ _ 3 _ _ _ k⟩
        have HQ : Hid (∀ W, Below wr.drew.heap.size wr.drew W → W.cell? ⟨zxq, 0, none⟩ = some (.int .i64 (KA : Int)) ∧ W.cell? ⟨zxq, 1, none⟩ = some (.int .i64 a.start) ∧ W.cell? ⟨zxq, 2, none⟩ = some (.slice (some ⟨bM, oM, none⟩) n b2) ∧ W.cell? ⟨zxq, 3, none⟩ = some (.slice (some ⟨bP, oP, none⟩) n b3)) := fun W h => by
          have k := (((HB.out.trans ((HB1.out W h).mono HB.out.size)).block _ (Array.getElem?_eq_some_iff.1 HQ9.out).1)).trans HQ9.out
          exact ⟨cell_of_row _ _ 0 _ _ _ k, cell_of_row _ _ 1 _ _ _ k, cell_of_row _ _ 2 _ _ _ k, cell_of_row _ _ 3 _ _ _ k⟩
        obtain ⟨bna, ona, cna, ana, ena, fna, gna, hna⟩ := HNa.out _ HB.out k hlt
        obtain ⟨bnb, onb, cnb, anb, enb, fnb, gnb, hnb⟩ := HNb.out _ HB.out k hlt
        obtain ⟨bpb, opb, cpb, apb, epb, fpb, gpb, hpb⟩ := HPb.out _ HB.out k hlt
        have hrw := HRW.out k hlt
        rw [hrw.1] at ena fna hna gna
        rw [hrw.2.1, hrw.1] at enb fnb hnb gnb
        rw [hrw.2.2.1] at epb fpb hpb gpb
        obtain rfl := fna (by omega)
        obtain rfl := fnb (by omega)
        obtain rfl := fpb (by omega)
        have HRa : Hid (∀ W, Below wr.drew.heap.size wr.drew W → W.cell? ⟨bN, oN + k, none⟩ = some (.slice (some ⟨bna, ona, none⟩) KA cna) ∧ W.cell? ⟨bM, oM + k, none⟩ = some (.slice (some ⟨bnb, onb, none⟩) KA cnb) ∧ W.cell? ⟨bP, oP + k, none⟩ = some (.slice (some ⟨bpb, opb, none⟩) KA cpb)) := fun W h => ⟨cellB (HB1.out W h) ena, cellB (HB1.out W h) enb, cellB (HB1.out W h) epb⟩
        have HIn : Hid (∀ W, Below wr.heap.size wr W → Calls Try.prog 25 #[.slice (some ⟨bnb, onb, none⟩) KA cnb, .slice (some ⟨bna, ona, none⟩) KA cna] W (Calm (.bool true) W)) := fun W h => by
          have k := (Ints2_c W _ _ _ _ (gnb.below h) (gna.below h)).mono fun e w' h => h.calm
          rwa [decide_eq_true rfl] at k
        have yk : ((KA : Int) != (KA : Int)) = false := by simp
        have yk2 : (KA != KA) = false := by simp
        clear hrw ena enb epb hna hnb hpb fna fnb fpb gna gnb gpb
        have HKI := Lib.hid hk1
        refine region_stable0 hmx (RP10 n k KA q2 b2 b3 bN oN bM oM bP oP bna ona cna bnb onb cnb bpb opb cpb zxq zhx) (fun vs => { tmps := (_ :: _ :: _ :: _ :: _ :: _ :: _ :: _ :: _ :: _ :: _ :: _ :: _ :: _ :: _ :: _ :: _ :: _ :: _ :: _ :: _ :: _ :: _ :: _ :: _ :: _ :: _ :: _ :: _ :: _ :: _ :: _ :: _ :: _ :: _ :: _ :: _ :: _ :: _ :: _ :: _ :: _ :: _ :: _ :: _ :: _ :: _ :: _ :: _ :: _ :: _ :: _ :: _ :: _ :: _ :: _ :: _ :: _ :: _ :: _ :: _ :: _ :: _ :: _ :: _ :: _ :: _ :: _ :: _ :: _ :: _ :: _ :: _ :: _ :: _ :: _ :: vs 0 :: vs 1 :: vs 2 :: vs 3 :: vs 4 :: vs 5 :: vs 6 :: vs 7 :: vs 8 :: vs 9 :: vs 10 :: vs 11 :: vs 12 :: vs 13 :: vs 14 :: vs 15 :: vs 16 :: vs 17 :: vs 18 :: vs 19 :: vs 20 :: vs 21 :: vs 22 :: _ :: _ :: _ :: _ :: _ :: _ :: _ :: _ :: _ :: _ :: _ :: _ :: _ :: _ :: _ :: _ :: _ :: _ :: _ :: _ :: _ :: _ :: _ :: _ :: _ :: _ :: _ :: _ :: _ :: _ :: _ :: _ :: _ :: _ :: _ :: _ :: _ :: _ :: _ :: _ :: _ :: _ :: _ :: _ :: _ :: _ :: _ :: _ :: _ :: _ :: _ :: _ :: _ :: _ :: _ :: _ :: _ :: _ :: _ :: _ :: _ :: _ :: _ :: _ :: _ :: _ :: _ :: _ :: _ :: _ :: _ :: _ :: _ :: _ :: _ :: _ :: _ :: _ :: _ :: _ :: _ :: _ :: _ :: _ :: _ :: _ :: _ :: _ :: _ :: _ :: _ :: _ :: _ :: _ :: _ :: _ :: _ :: _ :: _ :: _ :: _ :: _ :: _ :: _ :: _ :: _ :: _ :: _ :: []).toArray, defers := _ }) (fun n => [u76, u77, u78, u79, u80, u81, u82, u83, u84, u85, u86, u87, u88, u89, u90, u91, u92, u93, u94, u95, u96, u97, u98].getD n undef) rfl (by kernel_rfl) (fun _ _ _ _ h _ => h) ?step ?fin
        case step =>
          as_aux_lemma =>
          intro ix o ho
          match ix, ho with
          | 0, ho =>
            obtain rfl := Option.some.inj ho
            intro vs W K hB hD hU hK
            have HK := Lib.hid hK
            clear hK hD hU ho
            dsimp only
            go_simp
            have h := HK.out _ _ (Below.refl _ _) rfl
            simp only [upd, Nat.reduceEqDiff, reduceIte] at h
            exact h
          | 1, ho =>
            obtain rfl := Option.some.inj ho
            intro vs W K hB hD hU hK
            have HK := Lib.hid hK
            have e0 : vs 0 = .pointer (some ⟨zxq, 2, none⟩) := dep_of hD 0 (by rfl)
            obtain ⟨d0, d1, d2, d3⟩ := HQ.out W hB
            clear hK hD hU ho
            dsimp only
            go_simp
            have h := HK.out _ _ (Below.refl _ _) rfl
            simp only [upd, Nat.reduceEqDiff, reduceIte, e0] at h
            exact h
          | 2, ho =>
            obtain rfl := Option.some.inj ho
            intro vs W K hB hD hU hK
            have HK := Lib.hid hK
            clear hK hD hU ho
            dsimp only
            go_simp
            have h := HK.out _ _ (Below.refl _ _) rfl
            simp only [upd, Nat.reduceEqDiff, reduceIte] at h
            exact h
          | 3, ho =>
            obtain rfl := Option.some.inj ho
            intro vs W K hB hD hU hK
            have HK := Lib.hid hK
            have e1 : vs 1 = .slice (some ⟨bM, oM, none⟩) n b2 := dep_of hD 1 (by rfl)
            have e2 : vs 2 = .int .i64 (k : Int) := dep_of hD 2 (by rfl)
            have hk1x := HKI.out
            clear hK hD hU ho
            dsimp only
            go_simp
            have h := HK.out _ _ (Below.refl _ _) rfl
            simp only [upd, Nat.reduceEqDiff, reduceIte, e1, e2] at h
            exact h
          | 4, ho =>
            obtain rfl := Option.some.inj ho
            intro vs W K hB hD hU hK
            have HK := Lib.hid hK
            have e3 : vs 3 = .pointer (some ⟨bM, oM + k, none⟩) := dep_of hD 3 (by rfl)
            obtain ⟨d0, d1, d2⟩ := HRa.out W hB
            clear hK hD hU ho
            dsimp only
            go_simp
            have h := HK.out _ _ (Below.refl _ _) rfl
            simp only [upd, Nat.reduceEqDiff, reduceIte, e3] at h
            exact h
          | 5, ho =>
            obtain rfl := Option.some.inj ho
            intro vs W K hB hD hU hK
            have HK := Lib.hid hK
            clear hK hD hU ho
            dsimp only
            go_simp
            have h := HK.out _ _ (Below.refl _ _) rfl
            simp only [upd, Nat.reduceEqDiff, reduceIte] at h
            exact h
          | 6, ho =>
            obtain rfl := Option.some.inj ho
            intro vs W K hB hD hU hK
            have HK := Lib.hid hK
            have e5 : vs 5 = .pointer (some ⟨zhx, 2, none⟩) := dep_of hD 5 (by rfl)
            obtain ⟨d0, d1, d2, d3⟩ := HA.out W hB
            clear hK hD hU ho
            dsimp only
            go_simp
            have h := HK.out _ _ (Below.refl _ _) rfl
            simp only [upd, Nat.reduceEqDiff, reduceIte, e5] at h
            exact h
          | 7, ho =>
            obtain rfl := Option.some.inj ho
            intro vs W K hB hD hU hK
            have HK := Lib.hid hK
            clear hK hD hU ho
            dsimp only
            go_simp
            have h := HK.out _ _ (Below.refl _ _) rfl
            simp only [upd, Nat.reduceEqDiff, reduceIte] at h
            exact h
          | 8, ho =>
            obtain rfl := Option.some.inj ho
            intro vs W K hB hD hU hK
            have HK := Lib.hid hK
            have e6 : vs 6 = .slice (some ⟨bN, oN, none⟩) n q2 := dep_of hD 6 (by rfl)
            have e7 : vs 7 = .int .i64 (k : Int) := dep_of hD 7 (by rfl)
            have hk1x := HKI.out
            clear hK hD hU ho
            dsimp only
            go_simp
            have h := HK.out _ _ (Below.refl _ _) rfl
            simp only [upd, Nat.reduceEqDiff, reduceIte, e6, e7] at h
            exact h
          | 9, ho =>
            obtain rfl := Option.some.inj ho
            intro vs W K hB hD hU hK
            have HK := Lib.hid hK
            have e8 : vs 8 = .pointer (some ⟨bN, oN + k, none⟩) := dep_of hD 8 (by rfl)
            obtain ⟨d0, d1, d2⟩ := HRa.out W hB
            clear hK hD hU ho
            dsimp only
            go_simp
            have h := HK.out _ _ (Below.refl _ _) rfl
            simp only [upd, Nat.reduceEqDiff, reduceIte, e8] at h
            exact h
          | 10, ho =>
            obtain rfl := Option.some.inj ho
            intro vs W K hB hD hU hK
            have HK := Lib.hid hK
            have e4 : vs 4 = .slice (some ⟨bnb, onb, none⟩) KA cnb := dep_of hD 4 (by rfl)
            have e9 : vs 9 = .slice (some ⟨bna, ona, none⟩) KA cna := dep_of hD 9 (by rfl)
            clear hK hD hU ho
            dsimp only
            go_simp
            refine (HIn.out W (HB1.out W hB)).mono ?_
            rintro e W' ⟨rfl, hb⟩
            have h := HK.out _ _ hb rfl
            simp only [upd, Nat.reduceEqDiff, reduceIte, e4, e9] at h
            exact h
          | 11, ho =>
            obtain rfl := Option.some.inj ho
            intro vs W K hB hD hU hK
            have HK := Lib.hid hK
            have e10 : vs 10 = .bool true := dep_of hD 10 (by rfl)
            clear hK hD hU ho
            dsimp only
            go_simp
            have h := HK.out _ _ (Below.refl _ _) rfl
            simp only [upd, Nat.reduceEqDiff, reduceIte, e10] at h
            exact h
          | 12, ho =>
            obtain rfl := Option.some.inj ho
            intro vs W K hB hD hU hK
            have HK := Lib.hid hK
            have e11 : vs 11 = .bool false := dep_of hD 11 (by rfl)
            clear hK hD hU ho
            dsimp only
            go_simp
            have h := HK.out _ _ (Below.refl _ _) rfl
            simp only [upd, Nat.reduceEqDiff, reduceIte, e11] at h
            exact h
          | 13, ho =>
            obtain rfl := Option.some.inj ho
            intro vs W K hB hD hU hK
            have HK := Lib.hid hK
            have e12 : vs 12 = .bool false := dep_of hD 12 (by rfl)
            clear hK hD hU ho
            dsimp only
            go_simp
            have h := HK.out _ _ (Below.refl _ _) rfl
            simp only [upd, Nat.reduceEqDiff, reduceIte, e12] at h
            exact h
          | 14, ho =>
            obtain rfl := Option.some.inj ho
            intro vs W K hB hD hU hK
            have HK := Lib.hid hK
            have e12 : vs 12 = .bool false := dep_of hD 12 (by rfl)
            have e13 : vs 13 = .pointer (some ⟨zxq, 3, none⟩) := dep_of hD 13 (by rfl)
            obtain ⟨d0, d1, d2, d3⟩ := HQ.out W hB
            clear hK hD hU ho
            dsimp only
            go_simp
            have h := HK.out _ _ (Below.refl _ _) rfl
            simp only [upd, Nat.reduceEqDiff, reduceIte, e12, e13] at h
            exact h
          | 15, ho =>
            obtain rfl := Option.some.inj ho
            intro vs W K hB hD hU hK
            have HK := Lib.hid hK
            have e12 : vs 12 = .bool false := dep_of hD 12 (by rfl)
            clear hK hD hU ho
            dsimp only
            go_simp
            have h := HK.out _ _ (Below.refl _ _) rfl
            simp only [upd, Nat.reduceEqDiff, reduceIte, e12] at h
            exact h
          | 16, ho =>
            obtain rfl := Option.some.inj ho
            intro vs W K hB hD hU hK
            have HK := Lib.hid hK
            have e12 : vs 12 = .bool false := dep_of hD 12 (by rfl)
            have e14 : vs 14 = .slice (some ⟨bP, oP, none⟩) n b3 := dep_of hD 14 (by rfl)
            have e15 : vs 15 = .int .i64 (k : Int) := dep_of hD 15 (by rfl)
            have hk1x := HKI.out
            clear hK hD hU ho
            dsimp only
            go_simp
            have h := HK.out _ _ (Below.refl _ _) rfl
            simp only [upd, Nat.reduceEqDiff, reduceIte, e12, e14, e15] at h
            exact h
          | 17, ho =>
            obtain rfl := Option.some.inj ho
            intro vs W K hB hD hU hK
            have HK := Lib.hid hK
            have e12 : vs 12 = .bool false := dep_of hD 12 (by rfl)
            have e16 : vs 16 = .pointer (some ⟨bP, oP + k, none⟩) := dep_of hD 16 (by rfl)
            obtain ⟨d0, d1, d2⟩ := HRa.out W hB
            clear hK hD hU ho
            dsimp only
            go_simp
            have h := HK.out _ _ (Below.refl _ _) rfl
            simp only [upd, Nat.reduceEqDiff, reduceIte, e12, e16] at h
            exact h
          | 18, ho =>
            obtain rfl := Option.some.inj ho
            intro vs W K hB hD hU hK
            have HK := Lib.hid hK
            have e12 : vs 12 = .bool false := dep_of hD 12 (by rfl)
            have e17 : vs 17 = .slice (some ⟨bpb, opb, none⟩) KA cpb := dep_of hD 17 (by rfl)
            clear hK hD hU ho
            dsimp only
            go_simp
            have h := HK.out _ _ (Below.refl _ _) rfl
            simp only [upd, Nat.reduceEqDiff, reduceIte, e12, e17] at h
            exact h
          | 19, ho =>
            obtain rfl := Option.some.inj ho
            intro vs W K hB hD hU hK
            have HK := Lib.hid hK
            have e12 : vs 12 = .bool false := dep_of hD 12 (by rfl)
            clear hK hD hU ho
            dsimp only
            go_simp
            have h := HK.out _ _ (Below.refl _ _) rfl
            simp only [upd, Nat.reduceEqDiff, reduceIte, e12] at h
            exact h
          | 20, ho =>
            obtain rfl := Option.some.inj ho
            intro vs W K hB hD hU hK
            have HK := Lib.hid hK
            have e12 : vs 12 = .bool false := dep_of hD 12 (by rfl)
            have e19 : vs 19 = .pointer (some ⟨zhx, 0, none⟩) := dep_of hD 19 (by rfl)
            obtain ⟨d0, d1, d2, d3⟩ := HA.out W hB
            clear hK hD hU ho
            dsimp only
            go_simp
            have h := HK.out _ _ (Below.refl _ _) rfl
            simp only [upd, Nat.reduceEqDiff, reduceIte, e12, e19] at h
            exact h
          | 21, ho =>
            obtain rfl := Option.some.inj ho
            intro vs W K hB hD hU hK
            have HK := Lib.hid hK
            have e12 : vs 12 = .bool false := dep_of hD 12 (by rfl)
            have e18 : vs 18 = .int .i64 (KA : Int) := dep_of hD 18 (by rfl)
            have e20 : vs 20 = .int .i64 (KA : Int) := dep_of hD 20 (by rfl)
            clear hK hD hU ho
            dsimp only
            go_simp
            have h := HK.out _ _ (Below.refl _ _) rfl
            simp only [upd, Nat.reduceEqDiff, reduceIte, e12, e18, e20] at h
            exact h
          | 22, ho =>
            obtain rfl := Option.some.inj ho
            intro vs W K hB hD hU hK
            have HK := Lib.hid hK
            have e12 : vs 12 = .bool false := dep_of hD 12 (by rfl)
            have e21 : vs 21 = .bool false := dep_of hD 21 (by rfl)
            clear hK hD hU ho
            dsimp only
            go_simp
            have h := HK.out _ _ (Below.refl _ _) rfl
            simp only [upd, Nat.reduceEqDiff, reduceIte, e12, e21] at h
            exact h
          | q + 23, ho => exact absurd ho (by simp)
        case fin =>
          as_aux_lemma =>
          intro vs wA hB hall
          have e22 : vs 22 = .bool false := hall 22 (by decide)
          have HBA := Lib.hid (HB.out.trans ((HB1.out _ hB).mono HB.out.size))
          clear hall hB HB1 HA HQ HRa HIn yk yk2 HKI HB
          rw [e22]
          clear e22
          generalize vs 0 = z0q
          generalize vs 1 = z1q
          generalize vs 2 = z2q
          generalize vs 3 = z3q
          generalize vs 4 = z4q
          generalize vs 5 = z5q
          generalize vs 6 = z6q
          generalize vs 7 = z7q
          generalize vs 8 = z8q
          generalize vs 9 = z9q
          generalize vs 10 = z10q
          generalize vs 11 = z11q
          generalize vs 12 = z12q
          generalize vs 13 = z13q
          generalize vs 14 = z14q
          generalize vs 15 = z15q
          generalize vs 16 = z16q
          generalize vs 17 = z17q
          generalize vs 18 = z18q
          generalize vs 19 = z19q
          generalize vs 20 = z20q
          generalize vs 21 = z21q
          clear vs
          go_upto_region 13 with (fail)
          go_loopg [8] KA (fun gh x wx => ∃ x' : Nat, gh = KA - x' ∧ x = .int .i64 (x' : Int) ∧ x' ≤ KA ∧ Below w9.heap.size w9 wx)
          case atStart => exact ⟨0, rfl, rfl, by omega, HBA.out⟩
          case round =>
            clear HBA
            obtain ⟨x, hgx, rfl, hx, hB⟩ := hrel
            have HGX := Lib.hid hgx
            have HB := Lib.hid hB
            clear hgx
            have xq := (hB.block _ (Array.getElem?_eq_some_iff.1 HQ9.out).1).trans HQ9.out
            have hx9 := (hB.block _ (Array.getElem?_eq_some_iff.1 HX9.out).1).trans HX9.out
            have j3 := cell_of_row _ _ 3 _ _ _ xq
            have k0 := cell_of_row _ _ 0 _ _ _ hx9
            have k2 := cell_of_row _ _ 2 _ _ _ hx9
            obtain ⟨brx, orx, crx, arx, erx, frx, -, hrx⟩ := HPb.out _ hB k hlt
            have hrw := HRW.out k hlt
            rw [hrw.2.2.1] at erx frx hrx
            obtain rfl := frx (by omega)
            clear xq hx9 hB frx
            by_cases hltx : x < KA
            · as_aux_lemma =>
              have hx1 : (x : Int) < (KA : Int) := by omega
              have e5 := hrx x hltx
              have hy := hrw.2.2.2 x hltx
              obtain ⟨N, hN⟩ : ∃ N, n * KA = N := ⟨_, rfl⟩
              rw [hN] at hy
              have hNb : N ≤ 14 * 64 := by rw [← hN]; exact Nat.mul_le_mul hn14 hK1.2
              have hw0 : IntKind.i64.wrap ((n : Int) * (KA : Int)) = (N : Int) := by
                rw [← Int.natCast_mul, hN]
                exact IntWalk.i64_in _ ⟨by omega, by omega⟩
              generalize (b.prio.getD k []).getD x 0 = y at *
              have c1 : decide (y < 0) = false := decide_eq_false (by omega)
              have c2 : decide ((N : Int) < y) = false := decide_eq_false (by omega)
              clear hrx hrw hy hN hNb
              go_wp2
              refine wp_region_quiet_lit (by kernel_rfl) (by kernel_rfl) ?_
              ((repeat (go_big_quiet_step (fail))); refine wpQuiet_nil ?_; rintro _ ⟨nq, rfl⟩)
              go_wp2
              go_roundg (KA - (x + 1))
              case measure => have := HGX.out; omega
              case rel => exact ⟨x + 1, rfl, by go_num, by omega, HB.out.trans ((below_draws _ _ _).mono HB.out.size)⟩
            · as_aux_lemma =>
              obtain rfl : x = KA := by omega
              clear hrx hrw k0 k2
              go_wp2
              go_roundg (n - (k + 1))
              case measure => have := HGK.out; omega
              case rel => exact ⟨k + 1, rfl, by go_num, by omega, HB.out⟩
      · as_aux_lemma =>
        obtain rfl : k = n := by omega
        clear HGK hlt hk
        obtain ⟨wo, rfl⟩ : ∃ wo : World, wo = wr := ⟨_, rfl⟩
        obtain ⟨st, hst⟩ : ∃ st : Nat, a.start = (st : Int) := ⟨a.start.toNat, by have := HAK.out.st; omega⟩
        have hstn : st < k := by have := HAK.out.st; have := HNN.out; omega
        have HST := Lib.hid hst
        have hx9 := (HB.out.block _ (Array.getElem?_eq_some_iff.1 HX9.out).1).trans HX9.out
        have k1 := cell_of_row _ _ 1 _ _ _ hx9
        rw [hst] at k1
        clear hx9 hst
        go_upto_region 18 with (fail)
        clear k1 k2q
        go_upto_region 19 with (fail)
        have hO := OI_empty0 wo
        have hb0 : Below wo.heap.size wo (wo.alloc (.cells #[] 3)) := bel_box _
        have hb1 := hb0
        generalize wo.alloc (.cells #[] 3) = wp at *
        obtain ⟨C, hC⟩ : ∃ C, C = wo.heap.size := ⟨_, rfl⟩
        rw [← hC] at hO hb0 ⊢
        have HC := Lib.hid hC
        have HB11 := Lib.hid (HB.out.trans (hb1.mono HB.out.size))
        have HO := Lib.hid hO
        have HB0 := Lib.hid hb0
        have HY9 := Lib.hid HXX.out.2.1
        have hy9 := (HB11.out.block _ (Array.getElem?_eq_some_iff.1 HY9.out).1).trans HY9.out
        have j0 := cell_of_row _ _ 0 _ _ _ hy9
        clear hC hO hb0 hb1 hy9
        go_upto_region 20 with (fail)
        clear j0
        go_loopg [9, 11] n0 (fun gh v i wr => ∃ (q s : Nat), gh = n0 - q ∧ v = .int .i64 (s : Int) ∧ s < k ∧ i = .int .i64 (q : Int) ∧ q ≤ n0 ∧ Hid (endS a a.start (l.stem.take q) = (s : Int)) ∧ Below wp.heap.size wp wr)
        case atStart => exact ⟨0, st, rfl, rfl, hstn, rfl, by omega, HST.out, Below.refl _ _⟩
        case round =>
          obtain ⟨q, s, hgq, rfl, hs, rfl, hq, HES, hB⟩ := hrel
          have HGQ := Lib.hid hgq
          have HBq := Lib.hid hB
          have HB9q := Lib.hid (HB11.out.trans (hB.mono HB11.out.size))
          clear hgq hB
          have hx9 := (HB9q.out.block _ (Array.getElem?_eq_some_iff.1 HX9.out).1).trans HX9.out
          have hy9 := (HB9q.out.block _ (Array.getElem?_eq_some_iff.1 HY9.out).1).trans HY9.out
          have k2 := cell_of_row _ _ 2 _ _ _ hx9
          have j0 := cell_of_row _ _ 0 _ _ _ hy9
          clear hx9 hy9
          by_cases hlq : q < n0
          · as_aux_lemma =>
            have hq1 : (q : Int) < (n0 : Int) := by omega
            obtain rfl := hdS (by omega)
            have e1 := cellB HB9q.out (HSt.out q (by have := HN0.out; omega))
            have hxl := (valid_let HW.out).1 _ (getD_mem (l := l.stem) (x := q) (by have := HN0.out; omega))
            obtain ⟨x, hxx⟩ : ∃ x : Nat, l.stem.getD q 0 = (x : Int) := ⟨(l.stem.getD q 0).toNat, by omega⟩
            rw [hxx] at e1 hxl
            have hxK : x < KA := by omega
            have hxI : (x : Int) < (KA : Int) := by omega
            obtain ⟨brx, orx, crx, arx, erx, frx, -, hrx⟩ := HNa.out _ HB9q.out s hs
            rw [(HRW.out s hs).1] at erx frx hrx
            obtain rfl := frx (by omega)
            have e5 := hrx x hxK
            have hsI : (s : Int) < (k : Int) := by omega
            obtain ⟨y, hy, hyn⟩ : ∃ y : Nat, (a.next.getD s []).getD x 0 = (y : Int) ∧ y < k := by
              have h1 := HAK.out.nx s x (by rw [HNN.out]; exact hs) hxK
              have := HNN.out
              exact ⟨((a.next.getD s []).getD x 0).toNat, by omega, by omega⟩
            rw [hy] at e5
            have HESn : Hid (endS a a.start (l.stem.take (q + 1)) = (y : Int)) := by
              show _ = _
              rw [take_at (by have := HN0.out; omega), endS_snoc, HES.out, hxx]
              show (a.next.getD ((s : Int)).toNat []).getD ((x : Int)).toNat 0 = _
              rw [Int.toNat_natCast, Int.toNat_natCast, hy]
            clear hrx hy hxx hxl frx
            go_wp2
            refine wp_region_quiet_lit (by kernel_rfl) (by kernel_rfl) ?_
            ((repeat (go_big_quiet_step (fail))); refine wpQuiet_nil ?_; rintro _ ⟨nq, rfl⟩)
            go_wp2
            go_roundg (n0 - (q + 1))
            case measure => have := HGQ.out; omega
            case rel => exact ⟨q + 1, y, rfl, rfl, hyn, by go_num, by omega, HESn, HBq.out.trans ((below_draws _ _ _).mono HBq.out.size)⟩
          · as_aux_lemma =>
            obtain rfl : n0 = q := by omega
            have hst0 : stN a l 0 = (s : Int) := by
              have h := HES.out
              rw [← HN0.out, List.take_length] at h
              rw [stN_zero]; exact h
            have HS0 := Lib.hid hst0
            have HO12 := Lib.hid (HO.out.below HBq.out)
            have HB12 := Lib.hid (HB0.out.trans (HBq.out.mono (show C ≤ wp.heap.size by have := HB0.out.size; have := HC.out; omega)))
            clear HES hst0 HGQ hlq hq HB9q HO HB0
            obtain ⟨wq, rfl⟩ : ∃ wq : World, wq = wr := ⟨_, rfl⟩
            go_wp2_with fail
            clear k2 j0
            go_loopg [9, 10, 12] (k + 1) (fun gh v z i wr => ∃ (j s : Nat), gh = k + 1 - j ∧ v = .int .i64 (s : Int) ∧ s < k ∧ Hid (stN a l j = (s : Int)) ∧ i = .int .i64 (j : Int) ∧ j ≤ k ∧ Hid (∀ i' k', i' < j → k' < i' → stN a l k' ≠ stN a l i') ∧ Hid (OI wr C z (stL a l j)) ∧ Below C wo wr)
            case atStart => exact ⟨0, s, rfl, rfl, hs, HS0.out, rfl, by omega, fun i' k' hi => absurd hi (Nat.not_lt_zero _), HO12.out, HB12.out⟩
            case round =>
              clear HO12 HB12 HS0 hs
              obtain ⟨j, s, hgj, rfl, hs, HSJ, rfl, hj, HDJ, HOJ, hB⟩ := hrel
              have HGJ := Lib.hid hgj
              have HBj := Lib.hid hB
              clear hgj hB
              have hCs : C ≤ wr.heap.size := by have := HBj.out.size; have := HC.out; omega
              have HB9j := Lib.hid (HB.out.trans ((HC.out ▸ HBj.out : Below wo.heap.size wo wr).mono HB.out.size))
              have hll : (stL a l j).length = j := by simp [stL]
              obtain ⟨az, cz, hz⟩ := HOJ.out.slice
              rw [hll] at hz
              subst hz
              have HLL := Lib.hid hll
              clear hll
              obtain ⟨wj, rfl⟩ : ∃ wj : World, wj = wr := ⟨_, rfl⟩
              go_upto_region 26 with (fail)
              go_loopg [13] j (fun gh i wx => ∃ x : Nat, gh = j - x ∧ i = .int .i64 (x : Int) ∧ x ≤ j ∧ Hid (∀ k', k' < x → stN a l k' ≠ stN a l j) ∧ wj = wx)
              case atStart => exact ⟨0, rfl, rfl, by omega, fun k' h => absurd h (Nat.not_lt_zero _), rfl⟩
              case round =>
                obtain ⟨x, hgx, rfl, hx, HNX, rfl⟩ := hrel
                have HGX := Lib.hid hgx
                clear hgx
                by_cases hltx : x < j
                · as_aux_lemma =>
                  have hx1 : (x : Int) < (j : Int) := by omega
                  obtain ⟨gz, cz', hvz, -, -⟩ := HOJ.out.row (by rw [HLL.out]; omega)
                  rw [HLL.out] at hvz
                  obtain ⟨rfl, rfl⟩ : az = some ⟨gz, 0, none⟩ ∧ cz = cz' := by simpa using hvz
                  have e1 := OI.at' HOJ.out HLL.out.symm x (by rw [HLL.out]; exact hltx)
                  rw [stL_at] at e1
                  have hbx := stN_bd HAK.out.valid (by rw [HLK.out]; exact HW.out) x
                  rw [HNN.out] at hbx
                  obtain ⟨y, hy⟩ : ∃ y : Nat, stN a l x = (y : Int) := ⟨(stN a l x).toNat, by omega⟩
                  have HSX := Lib.hid hy
                  rw [hy] at e1
                  clear hvz hy hbx
                  by_cases hys : y = s
                  · subst hys
                    have c1 : ((y : Int) == (y : Int)) = true := by simp
                    have c2 : (y == y) = true := by simp
                    obtain ⟨dd, hdd⟩ : ∃ dd, j - x = dd := ⟨_, rfl⟩
                    have hw1 : IntKind.i64.wrap ((j : Int) - (x : Int)) = (dd : Int) := by
                      rw [show (j : Int) - (x : Int) = (dd : Int) by omega]
                      exact IntWalk.i64_in _ ⟨by omega, by omega⟩
                    have hw2 : (j : Int) - (x : Int) = (dd : Int) := by omega
                    have hev : evB a b l.loop (y : Int) (dd * l.loop.length) = true := by
                      have h := ev_true HAK.out (by rw [HLK.out]; exact HW.out) hltx (by rw [HSX.out, HSJ.out])
                      rw [HSX.out, hdd] at h
                      rw [HBB.out]; exact h
                    have hI := HII.out
                    have HEV := Lib.hid (even_c wj _ _ _ a b l KA y dd (hI.1.below HB9j.out) (hI.2.2.below HB9j.out) (hI.2.1.below HB9j.out) HAK.out (by rw [HBB.out]; exact HAK.out.prios) (by rw [HBB.out]; rfl) (valid_let HW.out).2.1 (valid_let HW.out).2.2 (by have := HN1.out; omega) (by omega) (by rw [HNN.out]; exact hs))
                    have HEX : Hid (evB a b l.loop (y : Int) (dd * l.loop.length) = true) := hev
                    have hx9 := (HB9j.out.block _ (Array.getElem?_eq_some_iff.1 HXX.out.1).1).trans HXX.out.1
                    have hy9 := (HB9j.out.block _ (Array.getElem?_eq_some_iff.1 HXX.out.2.1).1).trans HXX.out.2.1
                    have hq9 := (HB9j.out.block _ (Array.getElem?_eq_some_iff.1 HXX.out.2.2).1).trans HXX.out.2.2
                    have k0 := cell_of_row _ _ 0 _ _ _ hx9
                    have k1 := cell_of_row _ _ 1 _ _ _ hx9
                    have k2 := cell_of_row _ _ 2 _ _ _ hx9
                    have k3 := cell_of_row _ _ 3 _ _ _ hx9
                    have m0 := cell_of_row _ _ 0 _ _ _ hq9
                    have m1 := cell_of_row _ _ 1 _ _ _ hq9
                    have m2 := cell_of_row _ _ 2 _ _ _ hq9
                    have m3 := cell_of_row _ _ 3 _ _ _ hq9
                    have j0 := cell_of_row _ _ 0 _ _ _ hy9
                    have j1 := cell_of_row _ _ 1 _ _ _ hy9
                    clear hx9 hy9 hq9 hI hev hdd
                    go_wp2_with fail
                    refine HEV.out.mono ?_
                    rw [HEX.out]
                    rintro e wn ⟨rfl, hb3⟩
                    clear k0 k1 k2 k3 m0 m1 m2 m3 j0 j1 HEV
                    go_wp2
                    go_ret
                    exact HE.out _ (HB9.out.trans ((HB9j.out.trans (hb3.mono HB9j.out.size)).mono HB9.out.size))
                  · have c1 : ((y : Int) == (s : Int)) = false := by simp; omega
                    have c2 : (y == s) = false := by simp; omega
                    have HNX2 : Hid (∀ k', k' < x + 1 → stN a l k' ≠ stN a l j) := fun k' hk' => by
                      by_cases e : k' = x
                      · subst e; rw [HSX.out, HSJ.out]; omega
                      · exact HNX.out k' (by omega)
                    clear hys
                    go_wp2
                    go_roundg (j - (x + 1))
                    case measure => have := HGX.out; omega
                    case rel => exact ⟨x + 1, rfl, by go_num, by omega, HNX2, rfl⟩
                · as_aux_lemma =>
                  obtain rfl : x = j := by omega
                  have HDN : Hid (∀ i' k', i' < x + 1 → k' < i' → stN a l k' ≠ stN a l i') := fun i' k' h1 h2 => by
                    by_cases e : i' = x
                    · subst e; exact HNX.out k' h2
                    · exact HDJ.out i' k' (by omega) h2
                  have hroom : x + 1 ≤ k := by
                    have := st_room HAK.out (by rw [HLK.out]; exact HW.out) HDN.out
                    rw [HNN.out] at this
                    exact this
                  have hlx : (stL a l x).length ≤ 3000 := by rw [HLL.out]; omega
                  clear HNX HGX hltx hx
                  go_upto_region 31 with (at_builtin; refine app_int rfl _ _ (s : Int) rfl C _ _ HOJ.out rfl _ (by simp) rfl (by omega) hCs ?_; intro v' w' hown' hg hmv; obtain ⟨ao', cap', hv'⟩ := hown'.slice; rw [List.length_append, List.length_singleton, HLL.out] at hv'; subst hv'; have HOn := Lib.hid hown'; have HBn := Lib.hid (HBj.out.grown hg hCs (fun g h => HOJ.out.ge g h)); clear hown' hg hmv)
                  have HOn2 : Hid (OI w' C (.slice ao' (x + 1) cap') (stL a l (x + 1))) := by
                    show OI _ _ _ _
                    rw [stL_succ, HSJ.out]; exact HOn.out
                  have hBx : Below w9.heap.size w9 w' := HB.out.trans ((HC.out ▸ HBn.out : Below wo.heap.size wo w').mono HB.out.size)
                  have HBx := Lib.hid hBx
                  have hCn : C ≤ w'.heap.size := by have := HBn.out.size; have := HC.out; omega
                  have hy9 := (hBx.block _ (Array.getElem?_eq_some_iff.1 HXX.out.2.1).1).trans HXX.out.2.1
                  have j1 := cell_of_row _ _ 1 _ _ _ hy9
                  clear hBx hy9 HOn HOJ HBj HB9j hCs
                  go_upto_region 32 with (fail)
                  clear j1
                  go_loopg [9, 14] n1 (fun gh v i wx => ∃ (q s' : Nat), gh = n1 - q ∧ v = .int .i64 (s' : Int) ∧ s' < k ∧ i = .int .i64 (q : Int) ∧ q ≤ n1 ∧ Hid (endS a (s : Int) (l.loop.take q) = (s' : Int)) ∧ Below w'.heap.size w' wx)
                  case atStart => exact ⟨0, s, rfl, rfl, hs, rfl, by omega, rfl, Below.refl _ _⟩
                  case round =>
                    obtain ⟨q, s', hgq, rfl, hs', rfl, hq, HES, hB⟩ := hrel
                    have HGQ := Lib.hid hgq
                    have HBq := Lib.hid hB
                    have HB9q := Lib.hid (HBx.out.trans (hB.mono HBx.out.size))
                    clear hgq hB
                    have hy9 := (HB9q.out.block _ (Array.getElem?_eq_some_iff.1 HXX.out.2.1).1).trans HXX.out.2.1
                    have j1 := cell_of_row _ _ 1 _ _ _ hy9
                    clear hy9
                    by_cases hlq : q < n1
                    · as_aux_lemma =>
                      have hq1 : (q : Int) < (n1 : Int) := by omega
                      go_upto_region 34 with (fail)
                      clear j1
                      have HB1 : Hid (∀ W, Below wr.drew.heap.size wr.drew W → Below wr.heap.size wr W) := fun W h => (Below.drew (B := wr.heap.size) (Below.refl _ _)).trans h
                      obtain rfl := hdL (by omega)
                      have HA : Hid (∀ W, Below wr.drew.heap.size wr.drew W → W.cell? ⟨zhx, 0, none⟩ = some (.int .i64 (KA : Int)) ∧ W.cell? ⟨zhx, 1, none⟩ = some (.int .i64 a.start) ∧ W.cell? ⟨zhx, 2, none⟩ = some (.slice (some ⟨bN, oN, none⟩) k q2) ∧ W.cell? ⟨zhx, 3, none⟩ = some (.slice p3 k q3)) := fun W h => by
                        have k := (((HB9q.out.trans ((HB1.out W h).mono HB9q.out.size)).block _ (Array.getElem?_eq_some_iff.1 HXX.out.1).1)).trans HXX.out.1
                        exact ⟨cell_of_row _ _ 0 _ _ _ k, cell_of_row _ _ 1 _ _ _ k, cell_of_row _ _ 2 _ _ _ k, cell_of_row _ _ 3 _ _ _ k⟩
                      have HY : Hid (∀ W, Below wr.drew.heap.size wr.drew W → W.cell? ⟨zhy, 0, none⟩ = some (.slice s0 n0 t0) ∧ W.cell? ⟨zhy, 1, none⟩ = some (.slice (some ⟨bL, oL, none⟩) n1 t1)) := fun W h => by
                        have k := (((HB9q.out.trans ((HB1.out W h).mono HB9q.out.size)).block _ (Array.getElem?_eq_some_iff.1 HXX.out.2.1).1)).trans HXX.out.2.1
                        exact ⟨cell_of_row _ _ 0 _ _ _ k, cell_of_row _ _ 1 _ _ _ k⟩
                      have hxl := (valid_let HW.out).2.1 _ (getD_mem (l := l.loop) (x := q) (by have := HN1.out; omega))
                      obtain ⟨x', hxx⟩ : ∃ x : Nat, l.loop.getD q 0 = (x : Int) := ⟨(l.loop.getD q 0).toNat, by omega⟩
                      rw [hxx] at hxl
                      have hxK : x' < KA := by omega
                      have hxI : (x' : Int) < (KA : Int) := by omega
                      obtain ⟨brx, orx, crx, arx, erx, frx, -, hrx⟩ := HNa.out _ HB9q.out s' hs'
                      rw [(HRW.out s' hs').1] at erx frx hrx
                      obtain rfl := frx (by omega)
                      have e5 := hrx x' hxK
                      have hsI : (s' : Int) < (k : Int) := by omega
                      obtain ⟨y, hy, hyn⟩ : ∃ y : Nat, (a.next.getD s' []).getD x' 0 = (y : Int) ∧ y < k := by
                        have h1 := HAK.out.nx s' x' (by rw [HNN.out]; exact hs') hxK
                        have := HNN.out
                        exact ⟨((a.next.getD s' []).getD x' 0).toNat, by omega, by omega⟩
                      rw [hy] at e5
                      have HESn : Hid (endS a (s : Int) (l.loop.take (q + 1)) = (y : Int)) := by
                        show _ = _
                        rw [take_at (by have := HN1.out; omega), endS_snoc, HES.out, hxx]
                        show (a.next.getD ((s' : Int)).toNat []).getD ((x' : Int)).toNat 0 = _
                        rw [Int.toNat_natCast, Int.toNat_natCast, hy]
                      have hwr : IntKind.i64.wrap ((n0 : Int) + (q : Int)) = (n0 : Int) + (q : Int) := IntWalk.i64_in _ ⟨by omega, by omega⟩
                      have HAt : Hid (∀ W, Below wr.heap.size wr W → Calls Try.prog 30 #[.agg #[.slice s0 n0 t0, .slice (some ⟨bL, oL, none⟩) n1 t1], .int .i64 ((n0 : Int) + (q : Int))] W (Calm (.int .i64 (x' : Int)) W)) := fun W h => by
                        have k := At_c W _ l ((n0 : Int) + (q : Int)) ((HII.out.2.1.below HB9q.out).below h) (by unfold I64; omega)
                        have hf : formB l = true := by
                          have := HW.out
                          simp only [validI, Bool.and_eq_true] at this
                          exact this.1.1
                        have e : atI l ((n0 : Int) + (q : Int)) = (x' : Int) := by
                          have h1 := at_loop (l := l) (q := q) hf (by rw [HN1.out]; exact hlq)
                          rw [HN0.out, hxx] at h1
                          exact h1
                        rw [e] at k
                        exact k
                      have HRw : Hid (∀ W, Below wr.drew.heap.size wr.drew W → W.cell? ⟨bN, oN + s', none⟩ = some (.slice (some ⟨brx, orx, none⟩) KA crx) ∧ W.cell? ⟨brx, orx + x', none⟩ = some (.int .i64 (y : Int))) := fun W h => ⟨cellB (HB1.out W h) erx, cellB (HB1.out W h) e5⟩
                      have HSI := Lib.hid (And.intro hsI (And.intro hxI hwr))
                      clear hrx hy hxx hxl frx erx e5 hsI hxI hwr hxK
                      refine region_stable0 hmx (RP34 s0 k KA q2 bN oN n0 t0 bL oL n1 t1 s' q x' y brx orx crx zhx zhy) (fun vs => { tmps := (_ :: _ :: _ :: _ :: _ :: _ :: _ :: _ :: _ :: vs 14 :: _ :: _ :: _ :: _ :: _ :: _ :: _ :: _ :: _ :: _ :: _ :: _ :: _ :: _ :: _ :: _ :: _ :: _ :: _ :: _ :: _ :: _ :: _ :: _ :: _ :: _ :: _ :: _ :: _ :: _ :: _ :: _ :: _ :: _ :: _ :: _ :: _ :: _ :: _ :: _ :: _ :: _ :: _ :: _ :: _ :: _ :: _ :: _ :: _ :: _ :: _ :: _ :: _ :: _ :: _ :: _ :: _ :: _ :: _ :: _ :: _ :: _ :: _ :: _ :: _ :: _ :: _ :: _ :: _ :: _ :: _ :: _ :: _ :: _ :: _ :: _ :: _ :: _ :: _ :: _ :: _ :: _ :: _ :: _ :: _ :: _ :: _ :: _ :: _ :: _ :: _ :: _ :: _ :: _ :: _ :: _ :: _ :: _ :: _ :: _ :: _ :: _ :: _ :: _ :: _ :: _ :: _ :: _ :: _ :: _ :: _ :: _ :: _ :: _ :: _ :: _ :: _ :: _ :: _ :: _ :: _ :: _ :: _ :: _ :: _ :: _ :: _ :: _ :: _ :: _ :: _ :: _ :: _ :: _ :: _ :: _ :: _ :: _ :: _ :: _ :: _ :: _ :: _ :: _ :: _ :: _ :: _ :: _ :: _ :: _ :: _ :: _ :: _ :: _ :: _ :: _ :: _ :: _ :: _ :: _ :: _ :: _ :: _ :: _ :: _ :: _ :: _ :: _ :: _ :: _ :: _ :: _ :: _ :: _ :: _ :: _ :: _ :: _ :: _ :: _ :: _ :: _ :: _ :: vs 0 :: vs 1 :: vs 2 :: vs 3 :: vs 4 :: vs 5 :: vs 6 :: vs 7 :: vs 8 :: vs 9 :: vs 10 :: vs 11 :: vs 12 :: vs 13 :: []).toArray, defers := _ }) (fun n => [u193, u194, u195, u196, u197, u198, u199, u200, u201, u202, u203, u204, u205, u206, .int .i64 (s' : Int)].getD n undef) rfl (by kernel_rfl) (fun _ _ _ _ h _ => h) ?step ?fin
                      case step =>
                        as_aux_lemma =>
                        intro ix o ho
                        match ix, ho with
                        | 0, ho =>
                          obtain rfl := Option.some.inj ho
                          intro vs W K hB hD hU hK
                          have HK := Lib.hid hK
                          clear hK hD hU ho
                          dsimp only
                          go_simp
                          have h := HK.out _ _ (Below.refl _ _) rfl
                          simp only [upd, Nat.reduceEqDiff, reduceIte] at h
                          exact h
                        | 1, ho =>
                          obtain rfl := Option.some.inj ho
                          intro vs W K hB hD hU hK
                          have HK := Lib.hid hK
                          have e0 : vs 0 = .pointer (some ⟨zhx, 2, none⟩) := dep_of hD 0 (by rfl)
                          obtain ⟨d0, d1, d2, d3⟩ := HA.out W hB
                          clear hK hD hU ho
                          dsimp only
                          go_simp
                          have h := HK.out _ _ (Below.refl _ _) rfl
                          simp only [upd, Nat.reduceEqDiff, reduceIte, e0] at h
                          exact h
                        | 2, ho =>
                          obtain rfl := Option.some.inj ho
                          intro vs W K hB hD hU hK
                          have HK := Lib.hid hK
                          have u14x : vs 14 = .int .i64 (s' : Int) := hU 14 (by rfl)
                          clear hK hD hU ho
                          dsimp only
                          go_simp
                          have h := HK.out _ _ (Below.refl _ _) rfl
                          simp only [upd, Nat.reduceEqDiff, reduceIte, u14x] at h
                          exact h
                        | 3, ho =>
                          obtain rfl := Option.some.inj ho
                          intro vs W K hB hD hU hK
                          have HK := Lib.hid hK
                          have e1 : vs 1 = .slice (some ⟨bN, oN, none⟩) k q2 := dep_of hD 1 (by rfl)
                          have e2 : vs 2 = .int .i64 (s' : Int) := dep_of hD 2 (by rfl)
                          obtain ⟨hsI, hxI, hwr⟩ := HSI.out
                          clear hK hD hU ho
                          dsimp only
                          go_simp
                          have h := HK.out _ _ (Below.refl _ _) rfl
                          simp only [upd, Nat.reduceEqDiff, reduceIte, e1, e2] at h
                          exact h
                        | 4, ho =>
                          obtain rfl := Option.some.inj ho
                          intro vs W K hB hD hU hK
                          have HK := Lib.hid hK
                          have e3 : vs 3 = .pointer (some ⟨bN, oN + s', none⟩) := dep_of hD 3 (by rfl)
                          obtain ⟨d0, d1⟩ := HRw.out W hB
                          clear hK hD hU ho
                          dsimp only
                          go_simp
                          have h := HK.out _ _ (Below.refl _ _) rfl
                          simp only [upd, Nat.reduceEqDiff, reduceIte, e3] at h
                          exact h
                        | 5, ho =>
                          obtain rfl := Option.some.inj ho
                          intro vs W K hB hD hU hK
                          have HK := Lib.hid hK
                          obtain ⟨d0, d1⟩ := HY.out W hB
                          clear hK hD hU ho
                          dsimp only
                          go_simp
                          have h := HK.out _ _ (Below.refl _ _) rfl
                          simp only [upd, Nat.reduceEqDiff, reduceIte] at h
                          exact h
                        | 6, ho =>
                          obtain rfl := Option.some.inj ho
                          intro vs W K hB hD hU hK
                          have HK := Lib.hid hK
                          clear hK hD hU ho
                          dsimp only
                          go_simp
                          have h := HK.out _ _ (Below.refl _ _) rfl
                          simp only [upd, Nat.reduceEqDiff, reduceIte] at h
                          exact h
                        | 7, ho =>
                          obtain rfl := Option.some.inj ho
                          intro vs W K hB hD hU hK
                          have HK := Lib.hid hK
                          have e6 : vs 6 = .pointer (some ⟨zhy, 0, none⟩) := dep_of hD 6 (by rfl)
                          obtain ⟨d0, d1⟩ := HY.out W hB
                          clear hK hD hU ho
                          dsimp only
                          go_simp
                          have h := HK.out _ _ (Below.refl _ _) rfl
                          simp only [upd, Nat.reduceEqDiff, reduceIte, e6] at h
                          exact h
                        | 8, ho =>
                          obtain rfl := Option.some.inj ho
                          intro vs W K hB hD hU hK
                          have HK := Lib.hid hK
                          have e7 : vs 7 = .slice s0 n0 t0 := dep_of hD 7 (by rfl)
                          clear hK hD hU ho
                          dsimp only
                          go_simp
                          have h := HK.out _ _ (Below.refl _ _) rfl
                          simp only [upd, Nat.reduceEqDiff, reduceIte, e7] at h
                          exact h
                        | 9, ho =>
                          obtain rfl := Option.some.inj ho
                          intro vs W K hB hD hU hK
                          have HK := Lib.hid hK
                          clear hK hD hU ho
                          dsimp only
                          go_simp
                          have h := HK.out _ _ (Below.refl _ _) rfl
                          simp only [upd, Nat.reduceEqDiff, reduceIte] at h
                          exact h
                        | 10, ho =>
                          obtain rfl := Option.some.inj ho
                          intro vs W K hB hD hU hK
                          have HK := Lib.hid hK
                          have e8 : vs 8 = .int .i64 (n0 : Int) := dep_of hD 8 (by rfl)
                          have e9 : vs 9 = .int .i64 (q : Int) := dep_of hD 9 (by rfl)
                          obtain ⟨hsI, hxI, hwr⟩ := HSI.out
                          clear hK hD hU ho
                          dsimp only
                          go_simp
                          have h := HK.out _ _ (Below.refl _ _) rfl
                          simp only [upd, Nat.reduceEqDiff, reduceIte, e8, e9] at h
                          exact h
                        | 11, ho =>
                          obtain rfl := Option.some.inj ho
                          intro vs W K hB hD hU hK
                          have HK := Lib.hid hK
                          have e5 : vs 5 = .agg #[.slice s0 n0 t0, .slice (some ⟨bL, oL, none⟩) n1 t1] := dep_of hD 5 (by rfl)
                          have e10 : vs 10 = .int .i64 ((n0 : Int) + (q : Int)) := dep_of hD 10 (by rfl)
                          clear hK hD hU ho
                          dsimp only
                          go_simp
                          refine (HAt.out W (HB1.out W hB)).mono ?_
                          rintro e W' ⟨rfl, hb⟩
                          have h := HK.out _ _ hb rfl
                          simp only [upd, Nat.reduceEqDiff, reduceIte, e5, e10] at h
                          exact h
                        | 12, ho =>
                          obtain rfl := Option.some.inj ho
                          intro vs W K hB hD hU hK
                          have HK := Lib.hid hK
                          have e4 : vs 4 = .slice (some ⟨brx, orx, none⟩) KA crx := dep_of hD 4 (by rfl)
                          have e11 : vs 11 = .int .i64 (x' : Int) := dep_of hD 11 (by rfl)
                          obtain ⟨hsI, hxI, hwr⟩ := HSI.out
                          clear hK hD hU ho
                          dsimp only
                          go_simp
                          have h := HK.out _ _ (Below.refl _ _) rfl
                          simp only [upd, Nat.reduceEqDiff, reduceIte, e4, e11] at h
                          exact h
                        | 13, ho =>
                          obtain rfl := Option.some.inj ho
                          intro vs W K hB hD hU hK
                          have HK := Lib.hid hK
                          have e12 : vs 12 = .pointer (some ⟨brx, orx + x', none⟩) := dep_of hD 12 (by rfl)
                          obtain ⟨d0, d1⟩ := HRw.out W hB
                          clear hK hD hU ho
                          dsimp only
                          go_simp
                          have h := HK.out _ _ (Below.refl _ _) rfl
                          simp only [upd, Nat.reduceEqDiff, reduceIte, e12] at h
                          exact h
                        | 14, ho =>
                          obtain rfl := Option.some.inj ho
                          intro vs W K hB hD hU hK
                          have HK := Lib.hid hK
                          have e13 : vs 13 = .int .i64 (y : Int) := dep_of hD 13 (by rfl)
                          clear hK hD hU ho
                          dsimp only
                          go_simp
                          have h := HK.out _ _ (Below.refl _ _) rfl
                          simp only [upd, Nat.reduceEqDiff, reduceIte, e13] at h
                          exact h
                        | q + 15, ho => exact absurd ho (by simp)
                      case fin =>
                        as_aux_lemma =>
                        intro vs wA hB hall
                        have e22 : vs 14 = .int .i64 (y : Int) := hall 14 (by decide)
                        have HBA := Lib.hid (HBq.out.trans ((HB1.out _ hB).mono HBq.out.size))
                        clear hall hB HB1 HA HY HRw HAt HSI
                        rw [e22]
                        clear e22
                        generalize vs 0 = z0q
                        generalize vs 1 = z1q
                        generalize vs 2 = z2q
                        generalize vs 3 = z3q
                        generalize vs 4 = z4q
                        generalize vs 5 = z5q
                        generalize vs 6 = z6q
                        generalize vs 7 = z7q
                        generalize vs 8 = z8q
                        generalize vs 9 = z9q
                        generalize vs 10 = z10q
                        generalize vs 11 = z11q
                        generalize vs 12 = z12q
                        generalize vs 13 = z13q
                        clear vs
                        go_wp2
                        go_roundg (n1 - (q + 1))
                        case measure => have := HGQ.out; omega
                        case rel => exact ⟨q + 1, y, rfl, rfl, hyn, by go_num, by omega, HESn, HBA.out⟩
                    · as_aux_lemma =>
                      obtain rfl : q = n1 := by omega
                      have HSn : Hid (stN a l (x + 1) = (s' : Int)) := by
                        have h := HES.out
                        rw [← HN1.out, List.take_length] at h
                        show _ = _
                        rw [stN_next, HSJ.out]; exact h
                      have HOf := Lib.hid (HOn2.out.below HBq.out)
                      have HBf := Lib.hid (HBn.out.trans (HBq.out.mono hCn))
                      go_wp2
                      go_roundg (k + 1 - (x + 1))
                      case measure => have := HGJ.out; omega
                      case rel => exact ⟨x + 1, s', rfl, rfl, hs', HSn, by go_num, by omega, HDN, HOf.out, HBf.out⟩

end Go.Proofs.Ytdkpdpcecjcmcaa
