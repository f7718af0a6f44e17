/- What the reference's Winner of strategies returns. -/
import Derived.Test.YtkbiopjinegckaaSt16
import Derived.Test.YtkbiopjinegckaaSt7
namespace Go.Proofs.Ytkbiopjinegckaa
open Go.RowKit

def RW7a (_z : Nat) (_a0 : Option Addr) (_nO _c0 : Nat) (_a1 : Option Addr) (_n1 _c1 : Nat) (_a2 : Option Addr) (_c2 bW oW NW cW k : Nat) (x : Int) (_q : Nat) (_y : Int) (ix : Nat) (u : Value) (_ : World) : Prop :=
  match ix with
  | 0 => u = .slice (some ⟨bW, oW, none⟩) NW cW
  | 1 => u = .int .i64 (k : Int)
  | 2 => u = .pointer (some ⟨bW, oW + k, none⟩)
  | 3 => u = .int .i64 x
  | 4 => u = .bool true
  | 5 => u = .bool true
  | 6 => u = undef
  | 7 => u = undef
  | 8 => u = undef
  | 9 => u = undef
  | 10 => u = undef
  | 11 => u = undef
  | 12 => u = undef
  | 13 => u = undef
  | 14 => u = .bool true
  | 15 => u = .bool true
  | 16 => u = undef
  | 17 => u = undef
  | 18 => u = undef
  | 19 => u = undef
  | 20 => u = undef
  | 21 => u = undef
  | 22 => u = undef
  | 23 => u = undef
  | 24 => u = undef
  | 25 => u = undef
  | 26 => u = undef
  | 27 => u = undef
  | 28 => u = undef
  | 29 => u = undef
  | 30 => u = undef
  | 31 => u = undef
  | 32 => u = .bool true
  | _ => True

def RW7b (z : Nat) (a0 : Option Addr) (nO c0 : Nat) (_a1 : Option Addr) (_n1 _c1 : Nat) (_a2 : Option Addr) (_c2 bW oW NW cW k : Nat) (x : Int) (_q : Nat) (_y : Int) (ix : Nat) (u : Value) (_ : World) : Prop :=
  match ix with
  | 0 => u = .slice (some ⟨bW, oW, none⟩) NW cW
  | 1 => u = .int .i64 (k : Int)
  | 2 => u = .pointer (some ⟨bW, oW + k, none⟩)
  | 3 => u = .int .i64 x
  | 4 => u = .bool false
  | 5 => u = .bool false
  | 6 => u = .slice (some ⟨bW, oW, none⟩) NW cW
  | 7 => u = .int .i64 (k : Int)
  | 8 => u = .pointer (some ⟨bW, oW + k, none⟩)
  | 9 => u = .int .i64 x
  | 10 => u = .pointer (some ⟨z, 0, none⟩)
  | 11 => u = .slice a0 nO c0
  | 12 => u = .int .i64 (nO : Int)
  | 13 => u = .bool true
  | 14 => u = .bool true
  | 15 => u = .bool true
  | 16 => u = undef
  | 17 => u = undef
  | 18 => u = undef
  | 19 => u = undef
  | 20 => u = undef
  | 21 => u = undef
  | 22 => u = undef
  | 23 => u = undef
  | 24 => u = undef
  | 25 => u = undef
  | 26 => u = undef
  | 27 => u = undef
  | 28 => u = undef
  | 29 => u = undef
  | 30 => u = undef
  | 31 => u = undef
  | 32 => u = .bool true
  | _ => True

def RW7c (z : Nat) (a0 : Option Addr) (nO c0 : Nat) (_a1 : Option Addr) (_n1 _c1 : Nat) (_a2 : Option Addr) (_c2 bW oW NW cW k : Nat) (x : Int) (_q : Nat) (_y : Int) (ix : Nat) (u : Value) (_ : World) : Prop :=
  match ix with
  | 0 => u = .slice (some ⟨bW, oW, none⟩) NW cW
  | 1 => u = .int .i64 (k : Int)
  | 2 => u = .pointer (some ⟨bW, oW + k, none⟩)
  | 3 => u = .int .i64 x
  | 4 => u = .bool false
  | 5 => u = .bool false
  | 6 => u = .slice (some ⟨bW, oW, none⟩) NW cW
  | 7 => u = .int .i64 (k : Int)
  | 8 => u = .pointer (some ⟨bW, oW + k, none⟩)
  | 9 => u = .int .i64 x
  | 10 => u = .pointer (some ⟨z, 0, none⟩)
  | 11 => u = .slice a0 nO c0
  | 12 => u = .int .i64 (nO : Int)
  | 13 => u = .bool false
  | 14 => u = .bool false
  | 15 => u = .bool false
  | 16 => u = .int .i64 (k : Int)
  | 17 => u = .bool false
  | 18 => u = .bool false
  | 19 => u = undef
  | 20 => u = undef
  | 21 => u = undef
  | 22 => u = undef
  | 23 => u = undef
  | 24 => u = undef
  | 25 => u = undef
  | 26 => u = undef
  | 27 => u = undef
  | 28 => u = undef
  | 29 => u = undef
  | 30 => u = undef
  | 31 => u = .bool false
  | 32 => u = .bool false
  | _ => True

def RW7d (z : Nat) (a0 : Option Addr) (nO c0 : Nat) (a1 : Option Addr) (n1 c1 : Nat) (a2 : Option Addr) (c2 bW oW NW cW k : Nat) (x : Int) (q : Nat) (y : Int) (ix : Nat) (u : Value) (_ : World) : Prop :=
  match ix with
  | 0 => u = .slice (some ⟨bW, oW, none⟩) NW cW
  | 1 => u = .int .i64 (k : Int)
  | 2 => u = .pointer (some ⟨bW, oW + k, none⟩)
  | 3 => u = .int .i64 x
  | 4 => u = .bool false
  | 5 => u = .bool false
  | 6 => u = .slice (some ⟨bW, oW, none⟩) NW cW
  | 7 => u = .int .i64 (k : Int)
  | 8 => u = .pointer (some ⟨bW, oW + k, none⟩)
  | 9 => u = .int .i64 x
  | 10 => u = .pointer (some ⟨z, 0, none⟩)
  | 11 => u = .slice a0 nO c0
  | 12 => u = .int .i64 (nO : Int)
  | 13 => u = .bool false
  | 14 => u = .bool false
  | 15 => u = .bool false
  | 16 => u = .int .i64 (k : Int)
  | 17 => u = .bool true
  | 18 => u = .bool true
  | 19 => u = .agg #[.slice a0 nO c0, .slice a1 n1 c1, .slice a2 nO c2]
  | 20 => u = .slice (some ⟨bW, oW, none⟩) NW cW
  | 21 => u = .int .i64 (k : Int)
  | 22 => u = .int .i64 (q : Int)
  | 23 => u = .pointer (some ⟨bW, oW + q, none⟩)
  | 24 => u = .int .i64 y
  | 25 => u = .slice (some ⟨bW, oW, none⟩) NW cW
  | 26 => u = .int .i64 (k : Int)
  | 27 => u = .pointer (some ⟨bW, oW + k, none⟩)
  | 28 => u = .int .i64 x
  | 29 => u = .bool false
  | 30 => u = .bool true
  | 31 => u = .bool true
  | 32 => u = .bool true
  | _ => True

def RW7e (z : Nat) (a0 : Option Addr) (nO c0 : Nat) (a1 : Option Addr) (n1 c1 : Nat) (a2 : Option Addr) (c2 bW oW NW cW k : Nat) (x : Int) (q : Nat) (y : Int) (ix : Nat) (u : Value) (_ : World) : Prop :=
  match ix with
  | 0 => u = .slice (some ⟨bW, oW, none⟩) NW cW
  | 1 => u = .int .i64 (k : Int)
  | 2 => u = .pointer (some ⟨bW, oW + k, none⟩)
  | 3 => u = .int .i64 x
  | 4 => u = .bool false
  | 5 => u = .bool false
  | 6 => u = .slice (some ⟨bW, oW, none⟩) NW cW
  | 7 => u = .int .i64 (k : Int)
  | 8 => u = .pointer (some ⟨bW, oW + k, none⟩)
  | 9 => u = .int .i64 x
  | 10 => u = .pointer (some ⟨z, 0, none⟩)
  | 11 => u = .slice a0 nO c0
  | 12 => u = .int .i64 (nO : Int)
  | 13 => u = .bool false
  | 14 => u = .bool false
  | 15 => u = .bool false
  | 16 => u = .int .i64 (k : Int)
  | 17 => u = .bool true
  | 18 => u = .bool true
  | 19 => u = .agg #[.slice a0 nO c0, .slice a1 n1 c1, .slice a2 nO c2]
  | 20 => u = .slice (some ⟨bW, oW, none⟩) NW cW
  | 21 => u = .int .i64 (k : Int)
  | 22 => u = .int .i64 (q : Int)
  | 23 => u = .pointer (some ⟨bW, oW + q, none⟩)
  | 24 => u = .int .i64 y
  | 25 => u = .slice (some ⟨bW, oW, none⟩) NW cW
  | 26 => u = .int .i64 (k : Int)
  | 27 => u = .pointer (some ⟨bW, oW + k, none⟩)
  | 28 => u = .int .i64 x
  | 29 => u = .bool true
  | 30 => u = .bool false
  | 31 => u = .bool false
  | 32 => u = .bool false
  | _ => True

set_option maxRecDepth 100000 in
set_option maxHeartbeats 40000000 in
theorem RWinner_c (w : World) (vg vp : Value) (g : Gm) (P : Ph) (hg : IsGame w vg g) (hp : IsPath w vp P) (hlen : P.stem.length + P.loop.length ≤ 90000) :
    Calls Try.prog 19 #[vg, vp] w (Calm (.int .i64 (winrB g P)) w) := by
  have HV : Hid (∀ W, Below w.heap.size w W → Calls Try.prog 33 #[vg] W (Calm (.bool (validB g)) W)) := fun W hW => RValid_c W _ g (hg.below hW)
  have HFW : Hid (∀ W, Below w.heap.size w W → ∀ k x, k < g.succ.length → Calls Try.prog 34 #[vg, .int .i64 ((k : Nat) : Int), .int .i64 x] W (Calm (.bool (decide (x ∈ g.succ.getD k []))) W)) := fun W hW k x hk => follows_c W _ g k x (hg.below hW) hk
  obtain ⟨v0, v1, v2, rfl, i0, i1, i2⟩ := id hg
  obtain ⟨a0, c0, rfl⟩ := i0.shape
  obtain ⟨a1, c1, rfl⟩ := i1.shape
  obtain ⟨u0, u1, rfl, j0, j1⟩ := id hp
  obtain ⟨aS, cS, rfl⟩ := j0.shape
  obtain ⟨aL, cL, rfl⟩ := j1.shape
  obtain ⟨a2, c2, b2, o2, V, hv2, hd2, m2, dd2⟩ := i2.data
  subst hv2
  have HI0 := Lib.hid i0
  have HI1 := Lib.hid i1
  have HJ0 := Lib.hid j0
  have HJ1 := Lib.hid j1
  have HD2 := Lib.hid hd2
  clear hg hp i0 i1 i2 j0 j1 dd2 m2 hd2
  have HB := Lib.hid (Bx2.start w #[.slice a0 g.owner.length c0, .slice a1 g.prio.length c1, .slice a2 g.succ.length c2] #[.slice aS P.stem.length cS, .slice aL P.loop.length cL])
  have hB0 := HB.out.bl
  cases hv : validB g
  · have HW : Hid (winrB g P = -1) := by show _ = _; unfold winrB; rw [hv]; rfl
    go_enter Try.func19, Try.ntmps19
    go_wp2_with fail
    refine (HV.out _ hB0).mono ?_
    rintro e w1 ⟨rfl, hb1⟩
    rw [hv]
    have hE := hB0.trans (hb1.mono hB0.size)
    clear hv hb1
    go_wp2
    go_ret
    exact ⟨ret_int HW.out.symm, hE⟩
  by_cases hl : P.loop.length = 0
  · have hnil := List.eq_nil_of_length_eq_zero hl
    have HW : Hid (winrB g P = -1) := by show _ = _; unfold winrB; rw [hnil]; simp
    have hl' : ((P.loop.length : Int) == 0) = true := by simp [hl]
    clear hnil hl
    go_enter Try.func19, Try.ntmps19
    go_wp2_with fail
    refine (HV.out _ hB0).mono ?_
    rintro e w1 ⟨rfl, hb1⟩
    rw [hv]
    have d1 := (HB.out.step hb1).c2 1 rfl
    have hE := hB0.trans (hb1.mono hB0.size)
    clear hv hb1
    go_wp2
    go_ret
    exact ⟨ret_int HW.out.symm, hE⟩
  · have hl' : ((P.loop.length : Int) == 0) = false := by rw [beq_eq_false_iff_ne]; omega
    have hne : P.loop ≠ [] := fun e => hl (by rw [e]; rfl)
    have HWA : Hid (winrB g P = if okW g (wayL P) then leastW g P.loop % 2 else -1) := by
      show _ = _
      unfold winrB
      rw [hv]
      have : P.loop.isEmpty = false := by simpa using hne
      rw [this]; rfl
    have HVT := Lib.hid hv
    have HWL := Lib.hid (wayL_len P hne)
    have hl0 : 0 < P.loop.length := by omega
    have hl0I : (0 : Int) < P.loop.length := by omega
    obtain ⟨bL, oL, hld, -, hlt2⟩ := HJ1.out.dat
    obtain rfl := hld hl0
    have HLT : Hid (∀ j, j < P.loop.length → ∀ W, Below w.heap.size w W → W.cell? ⟨bL, oL + j, none⟩ = some (.int .i64 (P.loop.getD j 0))) := fun j hj W hW => cellB hW (hlt2 j hj)
    obtain ⟨x0, hx0⟩ : ∃ x0, x0 = P.loop.getD 0 0 := ⟨_, rfl⟩
    have HT1 : Hid (P.loop.take 1 = [x0]) := by
      show _ = _
      have := List.take_succ_eq_append_getElem hl0
      rw [List.take_zero, List.nil_append] at this
      rw [this, hx0, getD_lt _ _ _ hl0]
    have hX64 : I64 x0 := HJ1.out.2 _ (by rw [hx0, getD_lt _ _ _ hl0]; exact List.getElem_mem _)
    have HX0 := Lib.hid hx0
    obtain ⟨st, hst⟩ : ∃ st, st = P.stem := ⟨_, rfl⟩
    clear hl hne hld hlt2 hst st hx0
    go_enter Try.func19, Try.ntmps19
    go_wp2_with fail
    refine (HV.out _ hB0).mono ?_
    rintro e w1 ⟨rfl, hb1⟩
    rw [HVT.out]
    have HB1 := Lib.hid (HB.out.step hb1)
    have e1 := HB1.out.c2 1 rfl
    clear hv hb1 HB hB0
    go_wp2_with fail
    go_upto_region 3 with (fail)
    clear e1
    have hmx : Try.prog.follows .mixedOrders = true := by kernel_rfl
    have HBd := Lib.hid (HB1.out.step (Below.drew (Below.refl _ _)))
    have HCs : Hid (∀ W, Below w1.heap.size w1.drew W → Below w.heap.size w W ∧ W.cell? ⟨w.heap.size + 1, 0, none⟩ = some (.slice aS P.stem.length cS) ∧ W.cell? ⟨w.heap.size + 1, 1, none⟩ = some (.slice (some ⟨bL, oL, none⟩) P.loop.length cL)) := fun W hW => by
      have := HBd.out.step (W1 := W) (by exact hW)
      exact ⟨this.bl, this.c2 0 rfl, this.c2 1 rfl⟩
    refine region_tied hmx T3 (R3 (w.heap.size + 1) P.stem.length cS P.loop.length cL bL oL aS x0) (J3 w1.heap.size P.stem P.loop x0) (fun vs => { tmps := (_ :: _ :: _ :: _ :: _ :: vs 13 :: _ :: _ :: _ :: _ :: _ :: _ :: _ :: _ :: _ :: _ :: _ :: _ :: vs 0 :: vs 1 :: vs 2 :: vs 3 :: vs 4 :: vs 5 :: vs 6 :: vs 7 :: vs 8 :: vs 9 :: vs 10 :: vs 11 :: vs 12 :: _ :: _ :: _ :: _ :: _ :: _ :: _ :: _ :: _ :: _ :: _ :: _ :: _ :: _ :: _ :: _ :: _ :: _ :: _ :: _ :: _ :: _ :: _ :: _ :: _ :: _ :: _ :: _ :: _ :: _ :: _ :: _ :: _ :: _ :: _ :: _ :: _ :: _ :: _ :: _ :: _ :: _ :: _ :: _ :: _ :: _ :: _ :: _ :: _ :: _ :: _ :: _ :: _ :: _ :: _ :: _ :: _ :: _ :: _ :: _ :: _ :: _ :: _ :: _ :: _ :: _ :: _ :: []).toArray, defers := _ }) (fun _ => undef) rfl (by kernel_rfl) (fun _ _ _ _ h _ => h) (fun _ _ _ _ _ _ he h hb => h.stay he hb) ⟨fun h => absurd h (by simp), fun h => absurd h (by simp), fun h => absurd h (by simp), fun h => absurd h (by simp), fun h => absurd h (by simp), fun h => absurd h (by simp)⟩ ?plain ?tied ?fin
    case plain =>
      intro ix o hT ho
      match ix, hT, ho with
      | 0, hT, _ => exact absurd hT (by decide)
      | 1, _, ho =>
        obtain rfl := Option.some.inj ho
        intro S vs W K hB hd hRd hJ hK
        have HK := Lib.hid hK
        clear hK hRd hd hJ ho
        dsimp only
        go_simp
        have h := HK.out _ _ (Below.refl _ _) rfl
        simp only [upd, Nat.reduceEqDiff, reduceIte] at h
        exact h
      | 2, _, ho =>
        obtain rfl := Option.some.inj ho
        intro S vs W K hB hd hRd hJ hK
        have HK := Lib.hid hK
        have e1 : vs 1 = .pointer (some ⟨w.heap.size + 1, 0, none⟩) := hRd 1 (by rfl) (by rfl)
        obtain ⟨-, c0x, -⟩ := HCs.out W hB
        clear hK hRd hd hJ ho
        dsimp only
        go_simp
        have h := HK.out _ _ (Below.refl _ _) rfl
        simp only [upd, Nat.reduceEqDiff, reduceIte, e1] at h
        exact h
      | 3, hT, _ => exact absurd hT (by decide)
      | 4, _, ho =>
        obtain rfl := Option.some.inj ho
        intro S vs W K hB hd hRd hJ hK
        have HK := Lib.hid hK
        clear hK hRd hd hJ ho
        dsimp only
        go_simp
        have h := HK.out _ _ (Below.refl _ _) rfl
        simp only [upd, Nat.reduceEqDiff, reduceIte] at h
        exact h
      | 5, _, ho =>
        obtain rfl := Option.some.inj ho
        intro S vs W K hB hd hRd hJ hK
        have HK := Lib.hid hK
        have e4 : vs 4 = .pointer (some ⟨w.heap.size + 1, 1, none⟩) := hRd 4 (by rfl) (by rfl)
        obtain ⟨-, -, c1x⟩ := HCs.out W hB
        clear hK hRd hd hJ ho
        dsimp only
        go_simp
        have h := HK.out _ _ (Below.refl _ _) rfl
        simp only [upd, Nat.reduceEqDiff, reduceIte, e4] at h
        exact h
      | 6, hT, _ => exact absurd hT (by decide)
      | 7, _, ho =>
        obtain rfl := Option.some.inj ho
        intro S vs W K hB hd hRd hJ hK
        have HK := Lib.hid hK
        clear hK hRd hd hJ ho
        dsimp only
        go_simp
        have h := HK.out _ _ (Below.refl _ _) rfl
        simp only [upd, Nat.reduceEqDiff, reduceIte] at h
        exact h
      | 8, _, ho =>
        obtain rfl := Option.some.inj ho
        intro S vs W K hB hd hRd hJ hK
        have HK := Lib.hid hK
        have e7 : vs 7 = .pointer (some ⟨w.heap.size + 1, 1, none⟩) := hRd 7 (by rfl) (by rfl)
        obtain ⟨-, -, c1x⟩ := HCs.out W hB
        clear hK hRd hd hJ ho
        dsimp only
        go_simp
        have h := HK.out _ _ (Below.refl _ _) rfl
        simp only [upd, Nat.reduceEqDiff, reduceIte, e7] at h
        exact h
      | 9, _, ho =>
        obtain rfl := Option.some.inj ho
        intro S vs W K hB hd hRd hJ hK
        have HK := Lib.hid hK
        have e8 : vs 8 = .slice (some ⟨bL, oL, none⟩) P.loop.length cL := hRd 8 (by rfl) (by rfl)
        clear hK hRd hd hJ ho
        dsimp only
        go_simp
        have h := HK.out _ _ (Below.refl _ _) rfl
        simp only [upd, Nat.reduceEqDiff, reduceIte, e8] at h
        exact h
      | 10, _, ho =>
        obtain rfl := Option.some.inj ho
        intro S vs W K hB hd hRd hJ hK
        have HK := Lib.hid hK
        have e9 : vs 9 = .pointer (some ⟨bL, oL, none⟩) := hRd 9 (by rfl) (by rfl)
        have cxx := HLT.out 0 hl0 W (HCs.out W hB).1
        rw [← HX0.out, Nat.add_zero] at cxx
        clear hK hRd hd hJ ho
        dsimp only
        go_simp
        have h := HK.out _ _ (Below.refl _ _) rfl
        simp only [upd, Nat.reduceEqDiff, reduceIte, e9] at h
        exact h
      | 11, hT, _ => exact absurd hT (by decide)
      | 12, hT, _ => exact absurd hT (by decide)
      | 13, hT, _ => exact absurd hT (by decide)
      | q + 14, _, ho => exact absurd ho (by simp)
    case tied =>
      intro ix o hT ho
      match ix, hT, ho with
      | 1, hT, _ => exact absurd hT (by decide)
      | 2, hT, _ => exact absurd hT (by decide)
      | 4, hT, _ => exact absurd hT (by decide)
      | 5, hT, _ => exact absurd hT (by decide)
      | 7, hT, _ => exact absurd hT (by decide)
      | 8, hT, _ => exact absurd hT (by decide)
      | 9, hT, _ => exact absurd hT (by decide)
      | 10, hT, _ => exact absurd hT (by decide)
      | 0, _, ho =>
        obtain rfl := Option.some.inj ho
        intro S vs W K hB hSi hd hcl hRd hJ hK
        have h3 := hcl.no hSi 3 (by rfl)
        have h6 := hcl.no h3 6 (by rfl)
        have h12 := hcl.no h6 12 (by rfl)
        have h13 := hcl.no h12 13 (by rfl)
        have hbx := bel_box (w := W) (.cells #[] 3)
        have hnn : ∀ q, (Value.slice (some ⟨W.heap.size, 0, none⟩) 0 0).ownBlock = some q → W.heap.size ≤ q := fun q e => by
          have : W.heap.size = q := by simpa [Value.ownBlock] using e
          omega
        have HJ2 := Lib.hid (hJ.start (OI.base (OI_empty0 W) hB.size) hbx hnn h3 h6 h12 h13)
        clear hnn
        have HK := Lib.hid hK
        have HBB := Lib.hid (hB.trans (hbx.mono hB.size))
        clear hK hJ hRd hd hcl hSi h3 h6 h12 h13 ho hbx
        dsimp only
        go_simp
        have h := HK.out _ _ HBB.out (fun _ _ _ h => h) HJ2.out
        simp only [upd, Nat.reduceEqDiff, reduceIte] at h
        exact h
      | 3, _, ho =>
        obtain rfl := Option.some.inj ho
        intro S vs W K hB hSi hd hcl hRd hJ hK
        have h6 := hcl.no hSi 6 (by rfl)
        have h12 := hcl.no h6 12 (by rfl)
        have h13 := hcl.no h12 13 (by rfl)
        have e2 : vs 2 = .slice aS P.stem.length cS := hRd 2 (by rfl) (by rfl)
        have hr := hJ.r0 (hd 0 (by rfl)) hSi
        have hsrc := HJ0.out.below (HCs.out W hB).1
        rw [if_pos (by rfl)]
        refine wp_app_intsM W (.tmp 18) (.tmp 20) (by rfl) w1.heap.size (vs 0) (.slice aS P.stem.length cS) [] P.stem (by rfl) hr ((by rfl : _ = vs 2).trans e2) hsrc (by rw [List.length_nil]; omega) hB.size ?_
        intro v' w' hown hg hm
        have h := hK v' w' (hB.grown hg hB.size (fun g h => hr.ge g h)) (fun _ _ _ h => h) (hJ.app3 (hd 0 (by rfl)) (by simpa using hown) hg hm hSi h6 h12 h13)
        simp only [upd, Nat.reduceEqDiff, reduceIte] at h
        exact h
      | 6, _, ho =>
        obtain rfl := Option.some.inj ho
        intro S vs W K hB hSi hd hcl hRd hJ hK
        have h12 := hcl.no hSi 12 (by rfl)
        have h13 := hcl.no h12 13 (by rfl)
        have e2 : vs 5 = .slice (some ⟨bL, oL, none⟩) P.loop.length cL := hRd 5 (by rfl) (by rfl)
        have hr := hJ.r3 (hd 3 (by rfl)) hSi
        have hsrc := HJ1.out.below (HCs.out W hB).1
        rw [if_pos (by rfl)]
        refine wp_app_intsM W (.tmp 21) (.tmp 23) (by rfl) w1.heap.size (vs 3) (.slice (some ⟨bL, oL, none⟩) P.loop.length cL) P.stem P.loop (by rfl) hr ((by rfl : _ = vs 5).trans e2) hsrc (by omega) hB.size ?_
        intro v' w' hown hg hm
        have h := hK v' w' (hB.grown hg hB.size (fun g h => hr.ge g h)) (fun _ _ _ h => h) (hJ.app6 (hd 3 (by rfl)) hown hg hm hSi h12 h13)
        simp only [upd, Nat.reduceEqDiff, reduceIte] at h
        exact h
      | 11, _, ho =>
        obtain rfl := Option.some.inj ho
        intro S vs W K hB hSi hd hcl hRd hJ hK
        have h12 := hcl.no hSi 12 (by rfl)
        have h13 := hcl.no h12 13 (by rfl)
        have e10 : vs 10 = .int .i64 x0 := hRd 10 (by rfl) (by rfl)
        have hbx := bel_box (w := W) (.cells #[.int .i64 x0] 3)
        have HJ2 := Lib.hid (hJ.lay rfl (heap_alloc_new W _) hbx h12 h13)
        have HK := Lib.hid hK
        have HBB := Lib.hid (hB.trans (hbx.mono hB.size))
        clear hK hJ hRd hd hcl hSi h12 h13 ho hbx
        dsimp only
        go_simp
        have h := HK.out _ _ HBB.out (fun _ _ _ h => h) HJ2.out
        simp only [upd, Nat.reduceEqDiff, reduceIte, e10] at h
        exact h
      | 12, _, ho =>
        obtain rfl := Option.some.inj ho
        intro S vs W K hB hSi hd hcl hRd hJ hK
        have h13 := hcl.no hSi 13 (by rfl)
        have s6 := hd 6 (by rfl)
        have s3 := hcl 3 6 (by rfl) s6
        obtain ⟨gx, g1, g2, -, -, g5⟩ := hJ.b11 (hd 11 (by rfl)) hSi
        have hr := hJ.r6 s6 hSi
        rw [if_pos (by rfl)]
        refine wp_app_intsM W (.tmp 24) (.tmp 29) (by rfl) w1.heap.size (vs 6) (.slice (some ⟨gx, 0, none⟩) 1 1) (P.stem ++ P.loop) [x0] (by rfl) hr ((by rfl : _ = vs 11).trans g1) (IsInts.box1 g2 hX64) (by simp; omega) hB.size ?_
        intro v' w' hown hg hm
        have h := hK v' w' (hB.grown hg hB.size (fun g h => hr.ge g h)) (fun _ _ _ h => h) (J3.app12 s3 s6 hown h13)
        simp only [upd, Nat.reduceEqDiff, reduceIte] at h
        exact h
      | 13, _, ho =>
        obtain rfl := Option.some.inj ho
        intro S vs W K hB hSi hd hcl hRd hJ hK
        have HK := Lib.hid hK
        have HJ2 := Lib.hid hJ.fin
        have HBB := Lib.hid hB
        clear hK hJ hRd hd hcl hSi ho hB
        dsimp only
        go_simp
        have h := HK.out _ _ HBB.out (fun _ _ _ h => h) HJ2.out
        simp only [upd, Nat.reduceEqDiff, reduceIte] at h
        exact h
      | q + 14, _, ho => exact absurd ho (by simp)
    case fin =>
      intro vs0 vs w3 hB3 hS hR hJ
      have hown := hJ.r12 (hS 12 (by decide))
      have e13 := hJ.r13 (hS 13 (by decide))
      have hway : P.stem ++ P.loop ++ [x0] = wayL P := by unfold wayL; rw [HT1.out]
      rw [hway] at hown
      have hwl3 : (wayL P).length ≤ 100000 := by rw [HWL.out]; omega
      have HW : Hid (IsInts w3 (vs 12) (wayL P)) := hown.is (by unfold maxN; omega) fun x hx => by
        rw [← hway] at hx
        rcases List.mem_append.1 hx with h | h
        · rcases List.mem_append.1 h with h | h
          · exact HJ0.out.2 x h
          · exact HJ1.out.2 x h
        · rw [List.mem_singleton.1 h]; exact hX64
      have HB3 := Lib.hid (HBd.out.step (W1 := w3) (by exact hB3))
      rw [e13]
      obtain ⟨aW, cW, hvW⟩ := HW.out.shape
      rw [hvW] at HW ⊢
      have HLW : Hid (∀ k, k < P.loop.length → (wayL P).getD (P.stem.length + k) 0 = P.loop.getD k 0) := fun k hk => wayL_loop P k hk
      clear hJ hR hS hB3 hown hway e13 hvW HBd HB1 HCs
      generalize vs 0 = z0q
      generalize vs 1 = z1q
      generalize vs 2 = z2q
      generalize vs 3 = z3q
      generalize vs 4 = z4q
      generalize vs 5 = z5q
      generalize vs 6 = z6q
      generalize vs 7 = z7q
      generalize vs 8 = z8q
      generalize vs 9 = z9q
      generalize vs 10 = z10q
      generalize vs 11 = z11q
      clear vs
      obtain ⟨way, hwy⟩ : ∃ way, way = wayL P := ⟨_, rfl⟩
      rw [← hwy] at HWA HWL HW HLW hwl3 ⊢
      clear hwy
      have hlens := valid_lens HVT.out
      have HL3 : Hid (g.owner.length ≤ 3000 ∧ g.prio.length = g.owner.length ∧ g.succ.length = g.owner.length) := hlens
      have hsn : g.succ.length = g.owner.length := hlens.2.2
      rw [hsn] at HB3 HFW HV ⊢
      rw [hsn] at HD2
      have HSN := Lib.hid hsn
      clear hlens hsn
      have HLoB : Hid (okW g way = true → ∀ j, j < P.loop.length → 0 ≤ P.loop.getD j 0 ∧ P.loop.getD j 0 < g.owner.length) := fun h j hj => by
        have := okW_at h (i := P.stem.length + j) (by rw [HWL.out]; omega)
        rw [HLW.out j hj] at this
        exact this
      have hR3 : g.owner.length ≤ 3000 := HL3.out.1
      obtain ⟨R, hRe⟩ : ∃ R, R = g.owner.length := ⟨_, rfl⟩
      obtain ⟨n1, hn1⟩ : ∃ n1, n1 = g.prio.length := ⟨_, rfl⟩
      obtain ⟨NW, hNW⟩ : ∃ NW, NW = way.length := ⟨_, rfl⟩
      have HNW := Lib.hid hNW
      have HN1 := Lib.hid hn1
      have HRE := Lib.hid hRe
      have HFW2 := HFW
      rw [← hRe, ← hn1] at HFW2 HB3
      rw [← hRe] at hR3
      rw [← hNW] at HW hwl3
      rw [← hRe, ← hn1, ← hNW]
      clear hRe hn1 hNW HV HFW
      go_wp2
      go_loopg [6] NW (fun gh i wr => ∃ k : Nat, gh = NW - k ∧ i = .int .i64 k ∧ k ≤ NW ∧ Below w3.heap.size w3 wr ∧ Hid (∀ j, j < k → okAt g way j = true))
      case atStart => exact ⟨0, rfl, rfl, by omega, Below.refl _ _, fun j hj => absurd hj (by omega)⟩
      case round =>
        obtain ⟨k, hgk, rfl, hk, hBr, HOk⟩ := hrel
        have HGK := Lib.hid hgk
        clear hgk
        by_cases hlt : k < NW
        · obtain ⟨bW, oW, had, -, hdt⟩ := HW.out.dat
          obtain rfl := had (by omega)
          have HBad : Hid (okAt g way k = false → winrB g P = -1) := fun h => by
            rw [HWA.out, show okW g way = false from List.all_eq_false.2 ⟨k, List.mem_range.2 (HNW.out ▸ hlt), by rw [h]; decide⟩]; rfl
          have HAt : Hid (okAt g way k = (decide (0 ≤ way.getD k 0) && decide (way.getD k 0 < g.owner.length) && (decide (k = 0) || decide (way.getD k 0 ∈ g.succ.getD (way.getD (k - 1) 0).toNat [])))) := rfl
          have HBw : Hid (∀ W, Below wr.drew.heap.size wr.drew W → Below w3.heap.size w3 W) := fun W h => hBr.trans (((Below.drew (Below.refl _ _)).trans h).mono hBr.size)
          have HDT : Hid (∀ j, j < NW → ∀ W, Below wr.drew.heap.size wr.drew W → W.cell? ⟨bW, oW + j, none⟩ = some (.int .i64 (way.getD j 0))) := fun j hj W h => cellB (HBw.out W h) (hdt j hj)
          have HBB : Hid (∀ W, Below wr.drew.heap.size wr.drew W → Bx2 w W #[.slice a0 R c0, .slice a1 n1 c1, .slice a2 R c2] #[.slice aS P.stem.length cS, .slice (some ⟨bL, oL, none⟩) P.loop.length cL]) := fun W h => HB3.out.step (HBw.out W h)
          have HZ : Hid (∀ W, Below wr.drew.heap.size wr.drew W → W.cell? ⟨w.heap.size, 0, none⟩ = some (.slice a0 R c0) ∧ W.cell? ⟨w.heap.size, 1, none⟩ = some (.slice a1 n1 c1) ∧ W.cell? ⟨w.heap.size, 2, none⟩ = some (.slice a2 R c2)) := fun W h => ⟨(HBB.out W h).c1 0 rfl, (HBB.out W h).c1 1 rfl, (HBB.out W h).c1 2 rfl⟩
          have HW : Hid (∀ W, Below wr.drew.heap.size wr.drew W → W.cell? ⟨bW, oW + k, none⟩ = some (.int .i64 (way.getD k 0))) := fun W h => HDT.out k hlt W h
          generalize hx : way.getD k 0 = x at *
          have HX := Lib.hid hx
          have hlI : (k : Int) < NW := by omega
          have HBr := Lib.hid hBr
          clear hx had hdt hBr
          have hmx : Try.prog.follows .mixedOrders = true := by kernel_rfl
          have hE0 : ∀ W, Below w3.heap.size w3 W → Below w.heap.size w W := fun W h => HB3.out.bl.trans (h.mono HB3.out.bl.size)
          have HE0 := Lib.hid hE0
          clear hE0
          have hlt' : k < NW := hlt
          by_cases hx0 : x < 0
          · have hxl : decide (x < 0) = true := by simpa using hx0
            have HE := Lib.hid (HBad.out (by rw [HAt.out, show decide (0 ≤ x) = false by simp; omega]; rfl))
            clear hx0
            go_upto_region 7 with (fail)
            refine region_stable0 hmx (RW7a w.heap.size a0 R c0 a1 n1 c1 a2 c2 bW oW NW cW k x 0 0) (fun vs => { tmps := (_ :: _ :: _ :: _ :: _ :: _ :: _ :: _ :: _ :: _ :: _ :: _ :: _ :: _ :: _ :: _ :: _ :: _ :: _ :: _ :: _ :: _ :: _ :: _ :: _ :: _ :: _ :: _ :: _ :: _ :: _ :: _ :: _ :: _ :: _ :: _ :: _ :: vs 0 :: vs 1 :: vs 2 :: vs 3 :: vs 4 :: vs 5 :: vs 6 :: vs 7 :: vs 8 :: vs 9 :: vs 10 :: vs 11 :: vs 12 :: vs 13 :: vs 14 :: vs 15 :: vs 16 :: vs 17 :: vs 18 :: vs 19 :: vs 20 :: vs 21 :: vs 22 :: vs 23 :: vs 24 :: vs 25 :: vs 26 :: vs 27 :: vs 28 :: vs 29 :: vs 30 :: vs 31 :: vs 32 :: _ :: _ :: _ :: _ :: _ :: _ :: _ :: _ :: _ :: _ :: _ :: _ :: _ :: _ :: _ :: _ :: _ :: _ :: _ :: _ :: _ :: _ :: _ :: _ :: _ :: _ :: _ :: _ :: []).toArray, defers := _ }) (fun n => [u37, u38, u39, u40, u41, u42, u43, u44, u45, u46, u47, u48, u49, u50, u51, u52, u53, u54, u55, u56, u57, u58, u59, u60, u61, u62, u63, u64, u65, u66, u67, u68, u69].getD n undef) rfl (by kernel_rfl) (fun _ _ _ _ h _ => h) ?step ?fin
            case step =>
              intro ix o ho
              match ix, ho with
              | 0, ho =>
                obtain rfl := Option.some.inj ho
                intro vs W K hB hD hU hK
                have HK := Lib.hid hK
                clear hK hD hU ho
                dsimp only
                go_simp
                have h := HK.out _ _ (Below.refl _ _) rfl
                simp only [upd, Nat.reduceEqDiff, reduceIte] at h
                exact h
              | 1, ho =>
                obtain rfl := Option.some.inj ho
                intro vs W K hB hD hU hK
                have HK := Lib.hid hK
                clear hK hD hU ho
                dsimp only
                go_simp
                have h := HK.out _ _ (Below.refl _ _) rfl
                simp only [upd, Nat.reduceEqDiff, reduceIte] at h
                exact h
              | 2, ho =>
                obtain rfl := Option.some.inj ho
                intro vs W K hB hD hU hK
                have HK := Lib.hid hK
                have e0 : vs 0 = .slice (some ⟨bW, oW, none⟩) NW cW := dep_of hD 0 (by rfl)
                have e1 : vs 1 = .int .i64 (k : Int) := dep_of hD 1 (by rfl)
                clear hK hD hU ho
                dsimp only
                go_simp
                have h := HK.out _ _ (Below.refl _ _) rfl
                simp only [upd, Nat.reduceEqDiff, reduceIte, e0, e1] at h
                exact h
              | 3, ho =>
                obtain rfl := Option.some.inj ho
                intro vs W K hB hD hU hK
                have HK := Lib.hid hK
                have e2 : vs 2 = .pointer (some ⟨bW, oW + k, none⟩) := dep_of hD 2 (by rfl)
                have cW := HW.out W hB
                clear hK hD hU ho
                dsimp only
                go_simp
                have h := HK.out _ _ (Below.refl _ _) rfl
                simp only [upd, Nat.reduceEqDiff, reduceIte, e2] at h
                exact h
              | 4, ho =>
                obtain rfl := Option.some.inj ho
                intro vs W K hB hD hU hK
                have HK := Lib.hid hK
                have e3 : vs 3 = .int .i64 x := dep_of hD 3 (by rfl)
                clear hK hD hU ho
                dsimp only
                go_simp
                have h := HK.out _ _ (Below.refl _ _) rfl
                simp only [upd, Nat.reduceEqDiff, reduceIte, e3] at h
                exact h
              | 5, ho =>
                obtain rfl := Option.some.inj ho
                intro vs W K hB hD hU hK
                have HK := Lib.hid hK
                have e4 : vs 4 = .bool true := dep_of hD 4 (by rfl)
                clear hK hD hU ho
                dsimp only
                go_simp
                have h := HK.out _ _ (Below.refl _ _) rfl
                simp only [upd, Nat.reduceEqDiff, reduceIte, e4] at h
                exact h
              | 6, ho =>
                obtain rfl := Option.some.inj ho
                intro vs W K hB hD hU hK
                have HK := Lib.hid hK
                have e5 : vs 5 = .bool true := dep_of hD 5 (by rfl)
                clear hK hD hU ho
                dsimp only
                go_simp
                have h := HK.out _ _ (Below.refl _ _) rfl
                simp only [upd, Nat.reduceEqDiff, reduceIte, e5] at h
                exact h
              | 7, ho =>
                obtain rfl := Option.some.inj ho
                intro vs W K hB hD hU hK
                have HK := Lib.hid hK
                have e5 : vs 5 = .bool true := dep_of hD 5 (by rfl)
                clear hK hD hU ho
                dsimp only
                go_simp
                have h := HK.out _ _ (Below.refl _ _) rfl
                simp only [upd, Nat.reduceEqDiff, reduceIte, e5] at h
                exact h
              | 8, ho =>
                obtain rfl := Option.some.inj ho
                intro vs W K hB hD hU hK
                have HK := Lib.hid hK
                have e5 : vs 5 = .bool true := dep_of hD 5 (by rfl)
                clear hK hD hU ho
                dsimp only
                go_simp
                have h := HK.out _ _ (Below.refl _ _) rfl
                simp only [upd, Nat.reduceEqDiff, reduceIte, e5] at h
                exact h
              | 9, ho =>
                obtain rfl := Option.some.inj ho
                intro vs W K hB hD hU hK
                have HK := Lib.hid hK
                have e5 : vs 5 = .bool true := dep_of hD 5 (by rfl)
                clear hK hD hU ho
                dsimp only
                go_simp
                have h := HK.out _ _ (Below.refl _ _) rfl
                simp only [upd, Nat.reduceEqDiff, reduceIte, e5] at h
                exact h
              | 10, ho =>
                obtain rfl := Option.some.inj ho
                intro vs W K hB hD hU hK
                have HK := Lib.hid hK
                have e5 : vs 5 = .bool true := dep_of hD 5 (by rfl)
                clear hK hD hU ho
                dsimp only
                go_simp
                have h := HK.out _ _ (Below.refl _ _) rfl
                simp only [upd, Nat.reduceEqDiff, reduceIte, e5] at h
                exact h
              | 11, ho =>
                obtain rfl := Option.some.inj ho
                intro vs W K hB hD hU hK
                have HK := Lib.hid hK
                have e5 : vs 5 = .bool true := dep_of hD 5 (by rfl)
                clear hK hD hU ho
                dsimp only
                go_simp
                have h := HK.out _ _ (Below.refl _ _) rfl
                simp only [upd, Nat.reduceEqDiff, reduceIte, e5] at h
                exact h
              | 12, ho =>
                obtain rfl := Option.some.inj ho
                intro vs W K hB hD hU hK
                have HK := Lib.hid hK
                have e5 : vs 5 = .bool true := dep_of hD 5 (by rfl)
                clear hK hD hU ho
                dsimp only
                go_simp
                have h := HK.out _ _ (Below.refl _ _) rfl
                simp only [upd, Nat.reduceEqDiff, reduceIte, e5] at h
                exact h
              | 13, ho =>
                obtain rfl := Option.some.inj ho
                intro vs W K hB hD hU hK
                have HK := Lib.hid hK
                have e5 : vs 5 = .bool true := dep_of hD 5 (by rfl)
                clear hK hD hU ho
                dsimp only
                go_simp
                have h := HK.out _ _ (Below.refl _ _) rfl
                simp only [upd, Nat.reduceEqDiff, reduceIte, e5] at h
                exact h
              | 14, ho =>
                obtain rfl := Option.some.inj ho
                intro vs W K hB hD hU hK
                have HK := Lib.hid hK
                have e5 : vs 5 = .bool true := dep_of hD 5 (by rfl)
                have e13 : vs 13 = undef := dep_of hD 13 (by rfl)
                clear hK hD hU ho
                dsimp only
                go_simp
                have h := HK.out _ _ (Below.refl _ _) rfl
                simp only [upd, Nat.reduceEqDiff, reduceIte, e5, e13] at h
                exact h
              | 15, ho =>
                obtain rfl := Option.some.inj ho
                intro vs W K hB hD hU hK
                have HK := Lib.hid hK
                have e14 : vs 14 = .bool true := dep_of hD 14 (by rfl)
                clear hK hD hU ho
                dsimp only
                go_simp
                have h := HK.out _ _ (Below.refl _ _) rfl
                simp only [upd, Nat.reduceEqDiff, reduceIte, e14] at h
                exact h
              | 16, ho =>
                obtain rfl := Option.some.inj ho
                intro vs W K hB hD hU hK
                have HK := Lib.hid hK
                have e15 : vs 15 = .bool true := dep_of hD 15 (by rfl)
                clear hK hD hU ho
                dsimp only
                go_simp
                have h := HK.out _ _ (Below.refl _ _) rfl
                simp only [upd, Nat.reduceEqDiff, reduceIte, e15] at h
                exact h
              | 17, ho =>
                obtain rfl := Option.some.inj ho
                intro vs W K hB hD hU hK
                have HK := Lib.hid hK
                have e15 : vs 15 = .bool true := dep_of hD 15 (by rfl)
                clear hK hD hU ho
                dsimp only
                go_simp
                have h := HK.out _ _ (Below.refl _ _) rfl
                simp only [upd, Nat.reduceEqDiff, reduceIte, e15] at h
                exact h
              | 18, ho =>
                obtain rfl := Option.some.inj ho
                intro vs W K hB hD hU hK
                have HK := Lib.hid hK
                have e15 : vs 15 = .bool true := dep_of hD 15 (by rfl)
                clear hK hD hU ho
                dsimp only
                go_simp
                have h := HK.out _ _ (Below.refl _ _) rfl
                simp only [upd, Nat.reduceEqDiff, reduceIte, e15] at h
                exact h
              | 19, ho =>
                obtain rfl := Option.some.inj ho
                intro vs W K hB hD hU hK
                have HK := Lib.hid hK
                have e18 : vs 18 = undef := dep_of hD 18 (by rfl)
                clear hK hD hU ho
                dsimp only
                go_simp
                have h := HK.out _ _ (Below.refl _ _) rfl
                simp only [upd, Nat.reduceEqDiff, reduceIte, e18] at h
                exact h
              | 20, ho =>
                obtain rfl := Option.some.inj ho
                intro vs W K hB hD hU hK
                have HK := Lib.hid hK
                have e18 : vs 18 = undef := dep_of hD 18 (by rfl)
                clear hK hD hU ho
                dsimp only
                go_simp
                have h := HK.out _ _ (Below.refl _ _) rfl
                simp only [upd, Nat.reduceEqDiff, reduceIte, e18] at h
                exact h
              | 21, ho =>
                obtain rfl := Option.some.inj ho
                intro vs W K hB hD hU hK
                have HK := Lib.hid hK
                have e18 : vs 18 = undef := dep_of hD 18 (by rfl)
                clear hK hD hU ho
                dsimp only
                go_simp
                have h := HK.out _ _ (Below.refl _ _) rfl
                simp only [upd, Nat.reduceEqDiff, reduceIte, e18] at h
                exact h
              | 22, ho =>
                obtain rfl := Option.some.inj ho
                intro vs W K hB hD hU hK
                have HK := Lib.hid hK
                have e18 : vs 18 = undef := dep_of hD 18 (by rfl)
                clear hK hD hU ho
                dsimp only
                go_simp
                have h := HK.out _ _ (Below.refl _ _) rfl
                simp only [upd, Nat.reduceEqDiff, reduceIte, e18] at h
                exact h
              | 23, ho =>
                obtain rfl := Option.some.inj ho
                intro vs W K hB hD hU hK
                have HK := Lib.hid hK
                have e18 : vs 18 = undef := dep_of hD 18 (by rfl)
                clear hK hD hU ho
                dsimp only
                go_simp
                have h := HK.out _ _ (Below.refl _ _) rfl
                simp only [upd, Nat.reduceEqDiff, reduceIte, e18] at h
                exact h
              | 24, ho =>
                obtain rfl := Option.some.inj ho
                intro vs W K hB hD hU hK
                have HK := Lib.hid hK
                have e18 : vs 18 = undef := dep_of hD 18 (by rfl)
                clear hK hD hU ho
                dsimp only
                go_simp
                have h := HK.out _ _ (Below.refl _ _) rfl
                simp only [upd, Nat.reduceEqDiff, reduceIte, e18] at h
                exact h
              | 25, ho =>
                obtain rfl := Option.some.inj ho
                intro vs W K hB hD hU hK
                have HK := Lib.hid hK
                have e18 : vs 18 = undef := dep_of hD 18 (by rfl)
                clear hK hD hU ho
                dsimp only
                go_simp
                have h := HK.out _ _ (Below.refl _ _) rfl
                simp only [upd, Nat.reduceEqDiff, reduceIte, e18] at h
                exact h
              | 26, ho =>
                obtain rfl := Option.some.inj ho
                intro vs W K hB hD hU hK
                have HK := Lib.hid hK
                have e18 : vs 18 = undef := dep_of hD 18 (by rfl)
                clear hK hD hU ho
                dsimp only
                go_simp
                have h := HK.out _ _ (Below.refl _ _) rfl
                simp only [upd, Nat.reduceEqDiff, reduceIte, e18] at h
                exact h
              | 27, ho =>
                obtain rfl := Option.some.inj ho
                intro vs W K hB hD hU hK
                have HK := Lib.hid hK
                have e18 : vs 18 = undef := dep_of hD 18 (by rfl)
                clear hK hD hU ho
                dsimp only
                go_simp
                have h := HK.out _ _ (Below.refl _ _) rfl
                simp only [upd, Nat.reduceEqDiff, reduceIte, e18] at h
                exact h
              | 28, ho =>
                obtain rfl := Option.some.inj ho
                intro vs W K hB hD hU hK
                have HK := Lib.hid hK
                have e18 : vs 18 = undef := dep_of hD 18 (by rfl)
                clear hK hD hU ho
                dsimp only
                go_simp
                have h := HK.out _ _ (Below.refl _ _) rfl
                simp only [upd, Nat.reduceEqDiff, reduceIte, e18] at h
                exact h
              | 29, ho =>
                obtain rfl := Option.some.inj ho
                intro vs W K hB hD hU hK
                have HK := Lib.hid hK
                have e18 : vs 18 = undef := dep_of hD 18 (by rfl)
                clear hK hD hU ho
                dsimp only
                go_simp
                have h := HK.out _ _ (Below.refl _ _) rfl
                simp only [upd, Nat.reduceEqDiff, reduceIte, e18] at h
                exact h
              | 30, ho =>
                obtain rfl := Option.some.inj ho
                intro vs W K hB hD hU hK
                have HK := Lib.hid hK
                have e18 : vs 18 = undef := dep_of hD 18 (by rfl)
                clear hK hD hU ho
                dsimp only
                go_simp
                have h := HK.out _ _ (Below.refl _ _) rfl
                simp only [upd, Nat.reduceEqDiff, reduceIte, e18] at h
                exact h
              | 31, ho =>
                obtain rfl := Option.some.inj ho
                intro vs W K hB hD hU hK
                have HK := Lib.hid hK
                have e15 : vs 15 = .bool true := dep_of hD 15 (by rfl)
                clear hK hD hU ho
                dsimp only
                go_simp
                have h := HK.out _ _ (Below.refl _ _) rfl
                simp only [upd, Nat.reduceEqDiff, reduceIte, e15] at h
                exact h
              | 32, ho =>
                obtain rfl := Option.some.inj ho
                intro vs W K hB hD hU hK
                have HK := Lib.hid hK
                have e15 : vs 15 = .bool true := dep_of hD 15 (by rfl)
                have e31 : vs 31 = undef := dep_of hD 31 (by rfl)
                clear hK hD hU ho
                dsimp only
                go_simp
                have h := HK.out _ _ (Below.refl _ _) rfl
                simp only [upd, Nat.reduceEqDiff, reduceIte, e15, e31] at h
                exact h
              | q + 33, ho => exact absurd ho (by simp)
            case fin =>
              intro vs W hB hall
              have e32 : vs 32 = .bool true := hall 32 (by decide)
              have hB3 := (Below.drew (B := wr.heap.size) (Below.refl _ wr)).trans hB
              clear hall hB
              rw [e32]
              clear e32
              generalize vs 0 = z0q
              generalize vs 1 = z1q
              generalize vs 2 = z2q
              generalize vs 3 = z3q
              generalize vs 4 = z4q
              generalize vs 5 = z5q
              generalize vs 6 = z6q
              generalize vs 7 = z7q
              generalize vs 8 = z8q
              generalize vs 9 = z9q
              generalize vs 10 = z10q
              generalize vs 11 = z11q
              generalize vs 12 = z12q
              generalize vs 13 = z13q
              generalize vs 14 = z14q
              generalize vs 15 = z15q
              generalize vs 16 = z16q
              generalize vs 17 = z17q
              generalize vs 18 = z18q
              generalize vs 19 = z19q
              generalize vs 20 = z20q
              generalize vs 21 = z21q
              generalize vs 22 = z22q
              generalize vs 23 = z23q
              generalize vs 24 = z24q
              generalize vs 25 = z25q
              generalize vs 26 = z26q
              generalize vs 27 = z27q
              generalize vs 28 = z28q
              generalize vs 29 = z29q
              generalize vs 30 = z30q
              generalize vs 31 = z31q
              clear vs
              have hBn := HE0.out _ (HBr.out.trans (hB3.mono HBr.out.size))
              go_wp2
              go_ret
              exact ⟨ret_int HE.out.symm, hBn⟩
          · have hxl : decide (x < 0) = false := by simpa using hx0
            by_cases hx1 : (R : Int) ≤ x
            · have hxg : decide ((R : Int) ≤ x) = true := by simpa using hx1
              have HE := Lib.hid (HBad.out (by rw [HAt.out, show decide (x < (g.owner.length : Int)) = false by rw [← HRE.out]; simp; omega]; simp))
              clear hx0 hx1
              go_upto_region 7 with (fail)
              refine region_stable0 hmx (RW7b w.heap.size a0 R c0 a1 n1 c1 a2 c2 bW oW NW cW k x 0 0) (fun vs => { tmps := (_ :: _ :: _ :: _ :: _ :: _ :: _ :: _ :: _ :: _ :: _ :: _ :: _ :: _ :: _ :: _ :: _ :: _ :: _ :: _ :: _ :: _ :: _ :: _ :: _ :: _ :: _ :: _ :: _ :: _ :: _ :: _ :: _ :: _ :: _ :: _ :: _ :: vs 0 :: vs 1 :: vs 2 :: vs 3 :: vs 4 :: vs 5 :: vs 6 :: vs 7 :: vs 8 :: vs 9 :: vs 10 :: vs 11 :: vs 12 :: vs 13 :: vs 14 :: vs 15 :: vs 16 :: vs 17 :: vs 18 :: vs 19 :: vs 20 :: vs 21 :: vs 22 :: vs 23 :: vs 24 :: vs 25 :: vs 26 :: vs 27 :: vs 28 :: vs 29 :: vs 30 :: vs 31 :: vs 32 :: _ :: _ :: _ :: _ :: _ :: _ :: _ :: _ :: _ :: _ :: _ :: _ :: _ :: _ :: _ :: _ :: _ :: _ :: _ :: _ :: _ :: _ :: _ :: _ :: _ :: _ :: _ :: _ :: []).toArray, defers := _ }) (fun n => [u37, u38, u39, u40, u41, u42, u43, u44, u45, u46, u47, u48, u49, u50, u51, u52, u53, u54, u55, u56, u57, u58, u59, u60, u61, u62, u63, u64, u65, u66, u67, u68, u69].getD n undef) rfl (by kernel_rfl) (fun _ _ _ _ h _ => h) ?step ?fin
              case step =>
                intro ix o ho
                match ix, ho with
                | 0, ho =>
                  obtain rfl := Option.some.inj ho
                  intro vs W K hB hD hU hK
                  have HK := Lib.hid hK
                  clear hK hD hU ho
                  dsimp only
                  go_simp
                  have h := HK.out _ _ (Below.refl _ _) rfl
                  simp only [upd, Nat.reduceEqDiff, reduceIte] at h
                  exact h
                | 1, ho =>
                  obtain rfl := Option.some.inj ho
                  intro vs W K hB hD hU hK
                  have HK := Lib.hid hK
                  clear hK hD hU ho
                  dsimp only
                  go_simp
                  have h := HK.out _ _ (Below.refl _ _) rfl
                  simp only [upd, Nat.reduceEqDiff, reduceIte] at h
                  exact h
                | 2, ho =>
                  obtain rfl := Option.some.inj ho
                  intro vs W K hB hD hU hK
                  have HK := Lib.hid hK
                  have e0 : vs 0 = .slice (some ⟨bW, oW, none⟩) NW cW := dep_of hD 0 (by rfl)
                  have e1 : vs 1 = .int .i64 (k : Int) := dep_of hD 1 (by rfl)
                  clear hK hD hU ho
                  dsimp only
                  go_simp
                  have h := HK.out _ _ (Below.refl _ _) rfl
                  simp only [upd, Nat.reduceEqDiff, reduceIte, e0, e1] at h
                  exact h
                | 3, ho =>
                  obtain rfl := Option.some.inj ho
                  intro vs W K hB hD hU hK
                  have HK := Lib.hid hK
                  have e2 : vs 2 = .pointer (some ⟨bW, oW + k, none⟩) := dep_of hD 2 (by rfl)
                  have cW := HW.out W hB
                  clear hK hD hU ho
                  dsimp only
                  go_simp
                  have h := HK.out _ _ (Below.refl _ _) rfl
                  simp only [upd, Nat.reduceEqDiff, reduceIte, e2] at h
                  exact h
                | 4, ho =>
                  obtain rfl := Option.some.inj ho
                  intro vs W K hB hD hU hK
                  have HK := Lib.hid hK
                  have e3 : vs 3 = .int .i64 x := dep_of hD 3 (by rfl)
                  clear hK hD hU ho
                  dsimp only
                  go_simp
                  have h := HK.out _ _ (Below.refl _ _) rfl
                  simp only [upd, Nat.reduceEqDiff, reduceIte, e3] at h
                  exact h
                | 5, ho =>
                  obtain rfl := Option.some.inj ho
                  intro vs W K hB hD hU hK
                  have HK := Lib.hid hK
                  have e4 : vs 4 = .bool false := dep_of hD 4 (by rfl)
                  clear hK hD hU ho
                  dsimp only
                  go_simp
                  have h := HK.out _ _ (Below.refl _ _) rfl
                  simp only [upd, Nat.reduceEqDiff, reduceIte, e4] at h
                  exact h
                | 6, ho =>
                  obtain rfl := Option.some.inj ho
                  intro vs W K hB hD hU hK
                  have HK := Lib.hid hK
                  have e5 : vs 5 = .bool false := dep_of hD 5 (by rfl)
                  clear hK hD hU ho
                  dsimp only
                  go_simp
                  have h := HK.out _ _ (Below.refl _ _) rfl
                  simp only [upd, Nat.reduceEqDiff, reduceIte, e5] at h
                  exact h
                | 7, ho =>
                  obtain rfl := Option.some.inj ho
                  intro vs W K hB hD hU hK
                  have HK := Lib.hid hK
                  have e5 : vs 5 = .bool false := dep_of hD 5 (by rfl)
                  clear hK hD hU ho
                  dsimp only
                  go_simp
                  have h := HK.out _ _ (Below.refl _ _) rfl
                  simp only [upd, Nat.reduceEqDiff, reduceIte, e5] at h
                  exact h
                | 8, ho =>
                  obtain rfl := Option.some.inj ho
                  intro vs W K hB hD hU hK
                  have HK := Lib.hid hK
                  have e5 : vs 5 = .bool false := dep_of hD 5 (by rfl)
                  have e6 : vs 6 = .slice (some ⟨bW, oW, none⟩) NW cW := dep_of hD 6 (by rfl)
                  have e7 : vs 7 = .int .i64 (k : Int) := dep_of hD 7 (by rfl)
                  clear hK hD hU ho
                  dsimp only
                  go_simp
                  have h := HK.out _ _ (Below.refl _ _) rfl
                  simp only [upd, Nat.reduceEqDiff, reduceIte, e5, e6, e7] at h
                  exact h
                | 9, ho =>
                  obtain rfl := Option.some.inj ho
                  intro vs W K hB hD hU hK
                  have HK := Lib.hid hK
                  have e5 : vs 5 = .bool false := dep_of hD 5 (by rfl)
                  have e8 : vs 8 = .pointer (some ⟨bW, oW + k, none⟩) := dep_of hD 8 (by rfl)
                  have cW := HW.out W hB
                  clear hK hD hU ho
                  dsimp only
                  go_simp
                  have h := HK.out _ _ (Below.refl _ _) rfl
                  simp only [upd, Nat.reduceEqDiff, reduceIte, e5, e8] at h
                  exact h
                | 10, ho =>
                  obtain rfl := Option.some.inj ho
                  intro vs W K hB hD hU hK
                  have HK := Lib.hid hK
                  have e5 : vs 5 = .bool false := dep_of hD 5 (by rfl)
                  clear hK hD hU ho
                  dsimp only
                  go_simp
                  have h := HK.out _ _ (Below.refl _ _) rfl
                  simp only [upd, Nat.reduceEqDiff, reduceIte, e5] at h
                  exact h
                | 11, ho =>
                  obtain rfl := Option.some.inj ho
                  intro vs W K hB hD hU hK
                  have HK := Lib.hid hK
                  have e5 : vs 5 = .bool false := dep_of hD 5 (by rfl)
                  have e10 : vs 10 = .pointer (some ⟨w.heap.size, 0, none⟩) := dep_of hD 10 (by rfl)
                  obtain ⟨d0, d1, d2⟩ := HZ.out W hB
                  clear hK hD hU ho
                  dsimp only
                  go_simp
                  have h := HK.out _ _ (Below.refl _ _) rfl
                  simp only [upd, Nat.reduceEqDiff, reduceIte, e5, e10] at h
                  exact h
                | 12, ho =>
                  obtain rfl := Option.some.inj ho
                  intro vs W K hB hD hU hK
                  have HK := Lib.hid hK
                  have e5 : vs 5 = .bool false := dep_of hD 5 (by rfl)
                  have e11 : vs 11 = .slice a0 R c0 := dep_of hD 11 (by rfl)
                  clear hK hD hU ho
                  dsimp only
                  go_simp
                  have h := HK.out _ _ (Below.refl _ _) rfl
                  simp only [upd, Nat.reduceEqDiff, reduceIte, e5, e11] at h
                  exact h
                | 13, ho =>
                  obtain rfl := Option.some.inj ho
                  intro vs W K hB hD hU hK
                  have HK := Lib.hid hK
                  have e5 : vs 5 = .bool false := dep_of hD 5 (by rfl)
                  have e9 : vs 9 = .int .i64 x := dep_of hD 9 (by rfl)
                  have e12 : vs 12 = .int .i64 (R : Int) := dep_of hD 12 (by rfl)
                  clear hK hD hU ho
                  dsimp only
                  go_simp
                  have h := HK.out _ _ (Below.refl _ _) rfl
                  simp only [upd, Nat.reduceEqDiff, reduceIte, e5, e9, e12] at h
                  exact h
                | 14, ho =>
                  obtain rfl := Option.some.inj ho
                  intro vs W K hB hD hU hK
                  have HK := Lib.hid hK
                  have e5 : vs 5 = .bool false := dep_of hD 5 (by rfl)
                  have e13 : vs 13 = .bool true := dep_of hD 13 (by rfl)
                  clear hK hD hU ho
                  dsimp only
                  go_simp
                  have h := HK.out _ _ (Below.refl _ _) rfl
                  simp only [upd, Nat.reduceEqDiff, reduceIte, e5, e13] at h
                  exact h
                | 15, ho =>
                  obtain rfl := Option.some.inj ho
                  intro vs W K hB hD hU hK
                  have HK := Lib.hid hK
                  have e14 : vs 14 = .bool true := dep_of hD 14 (by rfl)
                  clear hK hD hU ho
                  dsimp only
                  go_simp
                  have h := HK.out _ _ (Below.refl _ _) rfl
                  simp only [upd, Nat.reduceEqDiff, reduceIte, e14] at h
                  exact h
                | 16, ho =>
                  obtain rfl := Option.some.inj ho
                  intro vs W K hB hD hU hK
                  have HK := Lib.hid hK
                  have e15 : vs 15 = .bool true := dep_of hD 15 (by rfl)
                  clear hK hD hU ho
                  dsimp only
                  go_simp
                  have h := HK.out _ _ (Below.refl _ _) rfl
                  simp only [upd, Nat.reduceEqDiff, reduceIte, e15] at h
                  exact h
                | 17, ho =>
                  obtain rfl := Option.some.inj ho
                  intro vs W K hB hD hU hK
                  have HK := Lib.hid hK
                  have e15 : vs 15 = .bool true := dep_of hD 15 (by rfl)
                  clear hK hD hU ho
                  dsimp only
                  go_simp
                  have h := HK.out _ _ (Below.refl _ _) rfl
                  simp only [upd, Nat.reduceEqDiff, reduceIte, e15] at h
                  exact h
                | 18, ho =>
                  obtain rfl := Option.some.inj ho
                  intro vs W K hB hD hU hK
                  have HK := Lib.hid hK
                  have e15 : vs 15 = .bool true := dep_of hD 15 (by rfl)
                  clear hK hD hU ho
                  dsimp only
                  go_simp
                  have h := HK.out _ _ (Below.refl _ _) rfl
                  simp only [upd, Nat.reduceEqDiff, reduceIte, e15] at h
                  exact h
                | 19, ho =>
                  obtain rfl := Option.some.inj ho
                  intro vs W K hB hD hU hK
                  have HK := Lib.hid hK
                  have e18 : vs 18 = undef := dep_of hD 18 (by rfl)
                  clear hK hD hU ho
                  dsimp only
                  go_simp
                  have h := HK.out _ _ (Below.refl _ _) rfl
                  simp only [upd, Nat.reduceEqDiff, reduceIte, e18] at h
                  exact h
                | 20, ho =>
                  obtain rfl := Option.some.inj ho
                  intro vs W K hB hD hU hK
                  have HK := Lib.hid hK
                  have e18 : vs 18 = undef := dep_of hD 18 (by rfl)
                  clear hK hD hU ho
                  dsimp only
                  go_simp
                  have h := HK.out _ _ (Below.refl _ _) rfl
                  simp only [upd, Nat.reduceEqDiff, reduceIte, e18] at h
                  exact h
                | 21, ho =>
                  obtain rfl := Option.some.inj ho
                  intro vs W K hB hD hU hK
                  have HK := Lib.hid hK
                  have e18 : vs 18 = undef := dep_of hD 18 (by rfl)
                  clear hK hD hU ho
                  dsimp only
                  go_simp
                  have h := HK.out _ _ (Below.refl _ _) rfl
                  simp only [upd, Nat.reduceEqDiff, reduceIte, e18] at h
                  exact h
                | 22, ho =>
                  obtain rfl := Option.some.inj ho
                  intro vs W K hB hD hU hK
                  have HK := Lib.hid hK
                  have e18 : vs 18 = undef := dep_of hD 18 (by rfl)
                  clear hK hD hU ho
                  dsimp only
                  go_simp
                  have h := HK.out _ _ (Below.refl _ _) rfl
                  simp only [upd, Nat.reduceEqDiff, reduceIte, e18] at h
                  exact h
                | 23, ho =>
                  obtain rfl := Option.some.inj ho
                  intro vs W K hB hD hU hK
                  have HK := Lib.hid hK
                  have e18 : vs 18 = undef := dep_of hD 18 (by rfl)
                  clear hK hD hU ho
                  dsimp only
                  go_simp
                  have h := HK.out _ _ (Below.refl _ _) rfl
                  simp only [upd, Nat.reduceEqDiff, reduceIte, e18] at h
                  exact h
                | 24, ho =>
                  obtain rfl := Option.some.inj ho
                  intro vs W K hB hD hU hK
                  have HK := Lib.hid hK
                  have e18 : vs 18 = undef := dep_of hD 18 (by rfl)
                  clear hK hD hU ho
                  dsimp only
                  go_simp
                  have h := HK.out _ _ (Below.refl _ _) rfl
                  simp only [upd, Nat.reduceEqDiff, reduceIte, e18] at h
                  exact h
                | 25, ho =>
                  obtain rfl := Option.some.inj ho
                  intro vs W K hB hD hU hK
                  have HK := Lib.hid hK
                  have e18 : vs 18 = undef := dep_of hD 18 (by rfl)
                  clear hK hD hU ho
                  dsimp only
                  go_simp
                  have h := HK.out _ _ (Below.refl _ _) rfl
                  simp only [upd, Nat.reduceEqDiff, reduceIte, e18] at h
                  exact h
                | 26, ho =>
                  obtain rfl := Option.some.inj ho
                  intro vs W K hB hD hU hK
                  have HK := Lib.hid hK
                  have e18 : vs 18 = undef := dep_of hD 18 (by rfl)
                  clear hK hD hU ho
                  dsimp only
                  go_simp
                  have h := HK.out _ _ (Below.refl _ _) rfl
                  simp only [upd, Nat.reduceEqDiff, reduceIte, e18] at h
                  exact h
                | 27, ho =>
                  obtain rfl := Option.some.inj ho
                  intro vs W K hB hD hU hK
                  have HK := Lib.hid hK
                  have e18 : vs 18 = undef := dep_of hD 18 (by rfl)
                  clear hK hD hU ho
                  dsimp only
                  go_simp
                  have h := HK.out _ _ (Below.refl _ _) rfl
                  simp only [upd, Nat.reduceEqDiff, reduceIte, e18] at h
                  exact h
                | 28, ho =>
                  obtain rfl := Option.some.inj ho
                  intro vs W K hB hD hU hK
                  have HK := Lib.hid hK
                  have e18 : vs 18 = undef := dep_of hD 18 (by rfl)
                  clear hK hD hU ho
                  dsimp only
                  go_simp
                  have h := HK.out _ _ (Below.refl _ _) rfl
                  simp only [upd, Nat.reduceEqDiff, reduceIte, e18] at h
                  exact h
                | 29, ho =>
                  obtain rfl := Option.some.inj ho
                  intro vs W K hB hD hU hK
                  have HK := Lib.hid hK
                  have e18 : vs 18 = undef := dep_of hD 18 (by rfl)
                  clear hK hD hU ho
                  dsimp only
                  go_simp
                  have h := HK.out _ _ (Below.refl _ _) rfl
                  simp only [upd, Nat.reduceEqDiff, reduceIte, e18] at h
                  exact h
                | 30, ho =>
                  obtain rfl := Option.some.inj ho
                  intro vs W K hB hD hU hK
                  have HK := Lib.hid hK
                  have e18 : vs 18 = undef := dep_of hD 18 (by rfl)
                  clear hK hD hU ho
                  dsimp only
                  go_simp
                  have h := HK.out _ _ (Below.refl _ _) rfl
                  simp only [upd, Nat.reduceEqDiff, reduceIte, e18] at h
                  exact h
                | 31, ho =>
                  obtain rfl := Option.some.inj ho
                  intro vs W K hB hD hU hK
                  have HK := Lib.hid hK
                  have e15 : vs 15 = .bool true := dep_of hD 15 (by rfl)
                  clear hK hD hU ho
                  dsimp only
                  go_simp
                  have h := HK.out _ _ (Below.refl _ _) rfl
                  simp only [upd, Nat.reduceEqDiff, reduceIte, e15] at h
                  exact h
                | 32, ho =>
                  obtain rfl := Option.some.inj ho
                  intro vs W K hB hD hU hK
                  have HK := Lib.hid hK
                  have e15 : vs 15 = .bool true := dep_of hD 15 (by rfl)
                  have e31 : vs 31 = undef := dep_of hD 31 (by rfl)
                  clear hK hD hU ho
                  dsimp only
                  go_simp
                  have h := HK.out _ _ (Below.refl _ _) rfl
                  simp only [upd, Nat.reduceEqDiff, reduceIte, e15, e31] at h
                  exact h
                | q + 33, ho => exact absurd ho (by simp)
              case fin =>
                intro vs W hB hall
                have e32 : vs 32 = .bool true := hall 32 (by decide)
                have hB3 := (Below.drew (B := wr.heap.size) (Below.refl _ wr)).trans hB
                clear hall hB
                rw [e32]
                clear e32
                generalize vs 0 = z0q
                generalize vs 1 = z1q
                generalize vs 2 = z2q
                generalize vs 3 = z3q
                generalize vs 4 = z4q
                generalize vs 5 = z5q
                generalize vs 6 = z6q
                generalize vs 7 = z7q
                generalize vs 8 = z8q
                generalize vs 9 = z9q
                generalize vs 10 = z10q
                generalize vs 11 = z11q
                generalize vs 12 = z12q
                generalize vs 13 = z13q
                generalize vs 14 = z14q
                generalize vs 15 = z15q
                generalize vs 16 = z16q
                generalize vs 17 = z17q
                generalize vs 18 = z18q
                generalize vs 19 = z19q
                generalize vs 20 = z20q
                generalize vs 21 = z21q
                generalize vs 22 = z22q
                generalize vs 23 = z23q
                generalize vs 24 = z24q
                generalize vs 25 = z25q
                generalize vs 26 = z26q
                generalize vs 27 = z27q
                generalize vs 28 = z28q
                generalize vs 29 = z29q
                generalize vs 30 = z30q
                generalize vs 31 = z31q
                clear vs
                have hBn := HE0.out _ (HBr.out.trans (hB3.mono HBr.out.size))
                go_wp2
                go_ret
                exact ⟨ret_int HE.out.symm, hBn⟩
            · have hxg : decide ((R : Int) ≤ x) = false := by simpa using hx1
              have HAt2 : Hid (okAt g way k = (decide (k = 0) || decide (x ∈ g.succ.getD (way.getD (k - 1) 0).toNat []))) := by
                show _ = _
                rw [HAt.out, show decide ((0 : Int) ≤ x) = true by simp; omega, show decide (x < (g.owner.length : Int)) = true by rw [← HRE.out]; simp; omega]; rfl
              have HOk0 := Lib.hid HOk.out
              clear hx0 hx1
              by_cases hk0 : k = 0
              · have HOk1 : Hid (∀ j, j < k + 1 → okAt g way j = true) := fun j hj => by
                  by_cases e : j = k
                  · rw [e, HAt2.out, show decide (k = 0) = true by simp [hk0]]; rfl
                  · exact HOk0.out j (by omega)
                have hk1 : decide ((0 : Int) < k) = false := by simp; omega
                have hk2 : decide (0 < k) = false := by simp; omega
                clear hk0
                go_upto_region 7 with (fail)
                refine region_stable0 hmx (RW7c w.heap.size a0 R c0 a1 n1 c1 a2 c2 bW oW NW cW k x 0 0) (fun vs => { tmps := (_ :: _ :: _ :: _ :: _ :: _ :: _ :: _ :: _ :: _ :: _ :: _ :: _ :: _ :: _ :: _ :: _ :: _ :: _ :: _ :: _ :: _ :: _ :: _ :: _ :: _ :: _ :: _ :: _ :: _ :: _ :: _ :: _ :: _ :: _ :: _ :: _ :: vs 0 :: vs 1 :: vs 2 :: vs 3 :: vs 4 :: vs 5 :: vs 6 :: vs 7 :: vs 8 :: vs 9 :: vs 10 :: vs 11 :: vs 12 :: vs 13 :: vs 14 :: vs 15 :: vs 16 :: vs 17 :: vs 18 :: vs 19 :: vs 20 :: vs 21 :: vs 22 :: vs 23 :: vs 24 :: vs 25 :: vs 26 :: vs 27 :: vs 28 :: vs 29 :: vs 30 :: vs 31 :: vs 32 :: _ :: _ :: _ :: _ :: _ :: _ :: _ :: _ :: _ :: _ :: _ :: _ :: _ :: _ :: _ :: _ :: _ :: _ :: _ :: _ :: _ :: _ :: _ :: _ :: _ :: _ :: _ :: _ :: []).toArray, defers := _ }) (fun n => [u37, u38, u39, u40, u41, u42, u43, u44, u45, u46, u47, u48, u49, u50, u51, u52, u53, u54, u55, u56, u57, u58, u59, u60, u61, u62, u63, u64, u65, u66, u67, u68, u69].getD n undef) rfl (by kernel_rfl) (fun _ _ _ _ h _ => h) ?step ?fin
                case step =>
                  intro ix o ho
                  match ix, ho with
                  | 0, ho =>
                    obtain rfl := Option.some.inj ho
                    intro vs W K hB hD hU hK
                    have HK := Lib.hid hK
                    clear hK hD hU ho
                    dsimp only
                    go_simp
                    have h := HK.out _ _ (Below.refl _ _) rfl
                    simp only [upd, Nat.reduceEqDiff, reduceIte] at h
                    exact h
                  | 1, ho =>
                    obtain rfl := Option.some.inj ho
                    intro vs W K hB hD hU hK
                    have HK := Lib.hid hK
                    clear hK hD hU ho
                    dsimp only
                    go_simp
                    have h := HK.out _ _ (Below.refl _ _) rfl
                    simp only [upd, Nat.reduceEqDiff, reduceIte] at h
                    exact h
                  | 2, ho =>
                    obtain rfl := Option.some.inj ho
                    intro vs W K hB hD hU hK
                    have HK := Lib.hid hK
                    have e0 : vs 0 = .slice (some ⟨bW, oW, none⟩) NW cW := dep_of hD 0 (by rfl)
                    have e1 : vs 1 = .int .i64 (k : Int) := dep_of hD 1 (by rfl)
                    clear hK hD hU ho
                    dsimp only
                    go_simp
                    have h := HK.out _ _ (Below.refl _ _) rfl
                    simp only [upd, Nat.reduceEqDiff, reduceIte, e0, e1] at h
                    exact h
                  | 3, ho =>
                    obtain rfl := Option.some.inj ho
                    intro vs W K hB hD hU hK
                    have HK := Lib.hid hK
                    have e2 : vs 2 = .pointer (some ⟨bW, oW + k, none⟩) := dep_of hD 2 (by rfl)
                    have cW := HW.out W hB
                    clear hK hD hU ho
                    dsimp only
                    go_simp
                    have h := HK.out _ _ (Below.refl _ _) rfl
                    simp only [upd, Nat.reduceEqDiff, reduceIte, e2] at h
                    exact h
                  | 4, ho =>
                    obtain rfl := Option.some.inj ho
                    intro vs W K hB hD hU hK
                    have HK := Lib.hid hK
                    have e3 : vs 3 = .int .i64 x := dep_of hD 3 (by rfl)
                    clear hK hD hU ho
                    dsimp only
                    go_simp
                    have h := HK.out _ _ (Below.refl _ _) rfl
                    simp only [upd, Nat.reduceEqDiff, reduceIte, e3] at h
                    exact h
                  | 5, ho =>
                    obtain rfl := Option.some.inj ho
                    intro vs W K hB hD hU hK
                    have HK := Lib.hid hK
                    have e4 : vs 4 = .bool false := dep_of hD 4 (by rfl)
                    clear hK hD hU ho
                    dsimp only
                    go_simp
                    have h := HK.out _ _ (Below.refl _ _) rfl
                    simp only [upd, Nat.reduceEqDiff, reduceIte, e4] at h
                    exact h
                  | 6, ho =>
                    obtain rfl := Option.some.inj ho
                    intro vs W K hB hD hU hK
                    have HK := Lib.hid hK
                    have e5 : vs 5 = .bool false := dep_of hD 5 (by rfl)
                    clear hK hD hU ho
                    dsimp only
                    go_simp
                    have h := HK.out _ _ (Below.refl _ _) rfl
                    simp only [upd, Nat.reduceEqDiff, reduceIte, e5] at h
                    exact h
                  | 7, ho =>
                    obtain rfl := Option.some.inj ho
                    intro vs W K hB hD hU hK
                    have HK := Lib.hid hK
                    have e5 : vs 5 = .bool false := dep_of hD 5 (by rfl)
                    clear hK hD hU ho
                    dsimp only
                    go_simp
                    have h := HK.out _ _ (Below.refl _ _) rfl
                    simp only [upd, Nat.reduceEqDiff, reduceIte, e5] at h
                    exact h
                  | 8, ho =>
                    obtain rfl := Option.some.inj ho
                    intro vs W K hB hD hU hK
                    have HK := Lib.hid hK
                    have e5 : vs 5 = .bool false := dep_of hD 5 (by rfl)
                    have e6 : vs 6 = .slice (some ⟨bW, oW, none⟩) NW cW := dep_of hD 6 (by rfl)
                    have e7 : vs 7 = .int .i64 (k : Int) := dep_of hD 7 (by rfl)
                    clear hK hD hU ho
                    dsimp only
                    go_simp
                    have h := HK.out _ _ (Below.refl _ _) rfl
                    simp only [upd, Nat.reduceEqDiff, reduceIte, e5, e6, e7] at h
                    exact h
                  | 9, ho =>
                    obtain rfl := Option.some.inj ho
                    intro vs W K hB hD hU hK
                    have HK := Lib.hid hK
                    have e5 : vs 5 = .bool false := dep_of hD 5 (by rfl)
                    have e8 : vs 8 = .pointer (some ⟨bW, oW + k, none⟩) := dep_of hD 8 (by rfl)
                    have cW := HW.out W hB
                    clear hK hD hU ho
                    dsimp only
                    go_simp
                    have h := HK.out _ _ (Below.refl _ _) rfl
                    simp only [upd, Nat.reduceEqDiff, reduceIte, e5, e8] at h
                    exact h
                  | 10, ho =>
                    obtain rfl := Option.some.inj ho
                    intro vs W K hB hD hU hK
                    have HK := Lib.hid hK
                    have e5 : vs 5 = .bool false := dep_of hD 5 (by rfl)
                    clear hK hD hU ho
                    dsimp only
                    go_simp
                    have h := HK.out _ _ (Below.refl _ _) rfl
                    simp only [upd, Nat.reduceEqDiff, reduceIte, e5] at h
                    exact h
                  | 11, ho =>
                    obtain rfl := Option.some.inj ho
                    intro vs W K hB hD hU hK
                    have HK := Lib.hid hK
                    have e5 : vs 5 = .bool false := dep_of hD 5 (by rfl)
                    have e10 : vs 10 = .pointer (some ⟨w.heap.size, 0, none⟩) := dep_of hD 10 (by rfl)
                    obtain ⟨d0, d1, d2⟩ := HZ.out W hB
                    clear hK hD hU ho
                    dsimp only
                    go_simp
                    have h := HK.out _ _ (Below.refl _ _) rfl
                    simp only [upd, Nat.reduceEqDiff, reduceIte, e5, e10] at h
                    exact h
                  | 12, ho =>
                    obtain rfl := Option.some.inj ho
                    intro vs W K hB hD hU hK
                    have HK := Lib.hid hK
                    have e5 : vs 5 = .bool false := dep_of hD 5 (by rfl)
                    have e11 : vs 11 = .slice a0 R c0 := dep_of hD 11 (by rfl)
                    clear hK hD hU ho
                    dsimp only
                    go_simp
                    have h := HK.out _ _ (Below.refl _ _) rfl
                    simp only [upd, Nat.reduceEqDiff, reduceIte, e5, e11] at h
                    exact h
                  | 13, ho =>
                    obtain rfl := Option.some.inj ho
                    intro vs W K hB hD hU hK
                    have HK := Lib.hid hK
                    have e5 : vs 5 = .bool false := dep_of hD 5 (by rfl)
                    have e9 : vs 9 = .int .i64 x := dep_of hD 9 (by rfl)
                    have e12 : vs 12 = .int .i64 (R : Int) := dep_of hD 12 (by rfl)
                    clear hK hD hU ho
                    dsimp only
                    go_simp
                    have h := HK.out _ _ (Below.refl _ _) rfl
                    simp only [upd, Nat.reduceEqDiff, reduceIte, e5, e9, e12] at h
                    exact h
                  | 14, ho =>
                    obtain rfl := Option.some.inj ho
                    intro vs W K hB hD hU hK
                    have HK := Lib.hid hK
                    have e5 : vs 5 = .bool false := dep_of hD 5 (by rfl)
                    have e13 : vs 13 = .bool false := dep_of hD 13 (by rfl)
                    clear hK hD hU ho
                    dsimp only
                    go_simp
                    have h := HK.out _ _ (Below.refl _ _) rfl
                    simp only [upd, Nat.reduceEqDiff, reduceIte, e5, e13] at h
                    exact h
                  | 15, ho =>
                    obtain rfl := Option.some.inj ho
                    intro vs W K hB hD hU hK
                    have HK := Lib.hid hK
                    have e14 : vs 14 = .bool false := dep_of hD 14 (by rfl)
                    clear hK hD hU ho
                    dsimp only
                    go_simp
                    have h := HK.out _ _ (Below.refl _ _) rfl
                    simp only [upd, Nat.reduceEqDiff, reduceIte, e14] at h
                    exact h
                  | 16, ho =>
                    obtain rfl := Option.some.inj ho
                    intro vs W K hB hD hU hK
                    have HK := Lib.hid hK
                    have e15 : vs 15 = .bool false := dep_of hD 15 (by rfl)
                    clear hK hD hU ho
                    dsimp only
                    go_simp
                    have h := HK.out _ _ (Below.refl _ _) rfl
                    simp only [upd, Nat.reduceEqDiff, reduceIte, e15] at h
                    exact h
                  | 17, ho =>
                    obtain rfl := Option.some.inj ho
                    intro vs W K hB hD hU hK
                    have HK := Lib.hid hK
                    have e15 : vs 15 = .bool false := dep_of hD 15 (by rfl)
                    have e16 : vs 16 = .int .i64 (k : Int) := dep_of hD 16 (by rfl)
                    clear hK hD hU ho
                    dsimp only
                    go_simp
                    have h := HK.out _ _ (Below.refl _ _) rfl
                    simp only [upd, Nat.reduceEqDiff, reduceIte, e15, e16] at h
                    exact h
                  | 18, ho =>
                    obtain rfl := Option.some.inj ho
                    intro vs W K hB hD hU hK
                    have HK := Lib.hid hK
                    have e15 : vs 15 = .bool false := dep_of hD 15 (by rfl)
                    have e17 : vs 17 = .bool false := dep_of hD 17 (by rfl)
                    clear hK hD hU ho
                    dsimp only
                    go_simp
                    have h := HK.out _ _ (Below.refl _ _) rfl
                    simp only [upd, Nat.reduceEqDiff, reduceIte, e15, e17] at h
                    exact h
                  | 19, ho =>
                    obtain rfl := Option.some.inj ho
                    intro vs W K hB hD hU hK
                    have HK := Lib.hid hK
                    have e18 : vs 18 = .bool false := dep_of hD 18 (by rfl)
                    clear hK hD hU ho
                    dsimp only
                    go_simp
                    have h := HK.out _ _ (Below.refl _ _) rfl
                    simp only [upd, Nat.reduceEqDiff, reduceIte, e18] at h
                    exact h
                  | 20, ho =>
                    obtain rfl := Option.some.inj ho
                    intro vs W K hB hD hU hK
                    have HK := Lib.hid hK
                    have e18 : vs 18 = .bool false := dep_of hD 18 (by rfl)
                    clear hK hD hU ho
                    dsimp only
                    go_simp
                    have h := HK.out _ _ (Below.refl _ _) rfl
                    simp only [upd, Nat.reduceEqDiff, reduceIte, e18] at h
                    exact h
                  | 21, ho =>
                    obtain rfl := Option.some.inj ho
                    intro vs W K hB hD hU hK
                    have HK := Lib.hid hK
                    have e18 : vs 18 = .bool false := dep_of hD 18 (by rfl)
                    clear hK hD hU ho
                    dsimp only
                    go_simp
                    have h := HK.out _ _ (Below.refl _ _) rfl
                    simp only [upd, Nat.reduceEqDiff, reduceIte, e18] at h
                    exact h
                  | 22, ho =>
                    obtain rfl := Option.some.inj ho
                    intro vs W K hB hD hU hK
                    have HK := Lib.hid hK
                    have e18 : vs 18 = .bool false := dep_of hD 18 (by rfl)
                    clear hK hD hU ho
                    dsimp only
                    go_simp
                    have h := HK.out _ _ (Below.refl _ _) rfl
                    simp only [upd, Nat.reduceEqDiff, reduceIte, e18] at h
                    exact h
                  | 23, ho =>
                    obtain rfl := Option.some.inj ho
                    intro vs W K hB hD hU hK
                    have HK := Lib.hid hK
                    have e18 : vs 18 = .bool false := dep_of hD 18 (by rfl)
                    clear hK hD hU ho
                    dsimp only
                    go_simp
                    have h := HK.out _ _ (Below.refl _ _) rfl
                    simp only [upd, Nat.reduceEqDiff, reduceIte, e18] at h
                    exact h
                  | 24, ho =>
                    obtain rfl := Option.some.inj ho
                    intro vs W K hB hD hU hK
                    have HK := Lib.hid hK
                    have e18 : vs 18 = .bool false := dep_of hD 18 (by rfl)
                    clear hK hD hU ho
                    dsimp only
                    go_simp
                    have h := HK.out _ _ (Below.refl _ _) rfl
                    simp only [upd, Nat.reduceEqDiff, reduceIte, e18] at h
                    exact h
                  | 25, ho =>
                    obtain rfl := Option.some.inj ho
                    intro vs W K hB hD hU hK
                    have HK := Lib.hid hK
                    have e18 : vs 18 = .bool false := dep_of hD 18 (by rfl)
                    clear hK hD hU ho
                    dsimp only
                    go_simp
                    have h := HK.out _ _ (Below.refl _ _) rfl
                    simp only [upd, Nat.reduceEqDiff, reduceIte, e18] at h
                    exact h
                  | 26, ho =>
                    obtain rfl := Option.some.inj ho
                    intro vs W K hB hD hU hK
                    have HK := Lib.hid hK
                    have e18 : vs 18 = .bool false := dep_of hD 18 (by rfl)
                    clear hK hD hU ho
                    dsimp only
                    go_simp
                    have h := HK.out _ _ (Below.refl _ _) rfl
                    simp only [upd, Nat.reduceEqDiff, reduceIte, e18] at h
                    exact h
                  | 27, ho =>
                    obtain rfl := Option.some.inj ho
                    intro vs W K hB hD hU hK
                    have HK := Lib.hid hK
                    have e18 : vs 18 = .bool false := dep_of hD 18 (by rfl)
                    clear hK hD hU ho
                    dsimp only
                    go_simp
                    have h := HK.out _ _ (Below.refl _ _) rfl
                    simp only [upd, Nat.reduceEqDiff, reduceIte, e18] at h
                    exact h
                  | 28, ho =>
                    obtain rfl := Option.some.inj ho
                    intro vs W K hB hD hU hK
                    have HK := Lib.hid hK
                    have e18 : vs 18 = .bool false := dep_of hD 18 (by rfl)
                    clear hK hD hU ho
                    dsimp only
                    go_simp
                    have h := HK.out _ _ (Below.refl _ _) rfl
                    simp only [upd, Nat.reduceEqDiff, reduceIte, e18] at h
                    exact h
                  | 29, ho =>
                    obtain rfl := Option.some.inj ho
                    intro vs W K hB hD hU hK
                    have HK := Lib.hid hK
                    have e18 : vs 18 = .bool false := dep_of hD 18 (by rfl)
                    clear hK hD hU ho
                    dsimp only
                    go_simp
                    have h := HK.out _ _ (Below.refl _ _) rfl
                    simp only [upd, Nat.reduceEqDiff, reduceIte, e18] at h
                    exact h
                  | 30, ho =>
                    obtain rfl := Option.some.inj ho
                    intro vs W K hB hD hU hK
                    have HK := Lib.hid hK
                    have e18 : vs 18 = .bool false := dep_of hD 18 (by rfl)
                    clear hK hD hU ho
                    dsimp only
                    go_simp
                    have h := HK.out _ _ (Below.refl _ _) rfl
                    simp only [upd, Nat.reduceEqDiff, reduceIte, e18] at h
                    exact h
                  | 31, ho =>
                    obtain rfl := Option.some.inj ho
                    intro vs W K hB hD hU hK
                    have HK := Lib.hid hK
                    have e15 : vs 15 = .bool false := dep_of hD 15 (by rfl)
                    have e18 : vs 18 = .bool false := dep_of hD 18 (by rfl)
                    have e30 : vs 30 = undef := dep_of hD 30 (by rfl)
                    clear hK hD hU ho
                    dsimp only
                    go_simp
                    have h := HK.out _ _ (Below.refl _ _) rfl
                    simp only [upd, Nat.reduceEqDiff, reduceIte, e15, e18, e30] at h
                    exact h
                  | 32, ho =>
                    obtain rfl := Option.some.inj ho
                    intro vs W K hB hD hU hK
                    have HK := Lib.hid hK
                    have e15 : vs 15 = .bool false := dep_of hD 15 (by rfl)
                    have e31 : vs 31 = .bool false := dep_of hD 31 (by rfl)
                    clear hK hD hU ho
                    dsimp only
                    go_simp
                    have h := HK.out _ _ (Below.refl _ _) rfl
                    simp only [upd, Nat.reduceEqDiff, reduceIte, e15, e31] at h
                    exact h
                  | q + 33, ho => exact absurd ho (by simp)
                case fin =>
                  intro vs W hB hall
                  have e32 : vs 32 = .bool false := hall 32 (by decide)
                  have hB3 := (Below.drew (B := wr.heap.size) (Below.refl _ wr)).trans hB
                  clear hall hB
                  rw [e32]
                  clear e32
                  generalize vs 0 = z0q
                  generalize vs 1 = z1q
                  generalize vs 2 = z2q
                  generalize vs 3 = z3q
                  generalize vs 4 = z4q
                  generalize vs 5 = z5q
                  generalize vs 6 = z6q
                  generalize vs 7 = z7q
                  generalize vs 8 = z8q
                  generalize vs 9 = z9q
                  generalize vs 10 = z10q
                  generalize vs 11 = z11q
                  generalize vs 12 = z12q
                  generalize vs 13 = z13q
                  generalize vs 14 = z14q
                  generalize vs 15 = z15q
                  generalize vs 16 = z16q
                  generalize vs 17 = z17q
                  generalize vs 18 = z18q
                  generalize vs 19 = z19q
                  generalize vs 20 = z20q
                  generalize vs 21 = z21q
                  generalize vs 22 = z22q
                  generalize vs 23 = z23q
                  generalize vs 24 = z24q
                  generalize vs 25 = z25q
                  generalize vs 26 = z26q
                  generalize vs 27 = z27q
                  generalize vs 28 = z28q
                  generalize vs 29 = z29q
                  generalize vs 30 = z30q
                  generalize vs 31 = z31q
                  clear vs
                  have hBn := HBr.out.trans (hB3.mono HBr.out.size)
                  clear hB3
                  go_wp2
                  go_roundg (NW - (k + 1))
                  case measure => have := HGK.out; omega
                  case rel => exact ⟨k + 1, rfl, by go_num, by omega, hBn, HOk1⟩
              · obtain ⟨q, hkq⟩ : ∃ q, k = q + 1 := ⟨k - 1, by omega⟩
                have hk1 : decide ((0 : Int) < k) = true := by simp; omega
                have hk2 : decide (0 < k) = true := by simp; omega
                have hw1 : IntKind.i64.wrap ((k : Int) - 1) = (q : Int) := by
                  rw [hkq]
                  have : ((q + 1 : Nat) : Int) - 1 = q := by omega
                  rw [this]
                  exact IntWalk.i64_in _ ⟨by omega, by omega⟩
                have hNWq : q < NW := by have := HNW.out; omega
                have HQ : Hid (∀ W, Below wr.drew.heap.size wr.drew W → W.cell? ⟨bW, oW + q, none⟩ = some (.int .i64 (way.getD q 0))) := fun W h => HDT.out q hNWq W h
                have hpq := HOk.out q (by omega)
                simp only [okAt, Bool.and_eq_true, decide_eq_true_eq] at hpq
                obtain ⟨⟨y0, y1⟩, -⟩ := hpq
                have HAt3 : Hid (okAt g way k = decide (x ∈ g.succ.getD (way.getD q 0).toNat [])) := by
                  show _ = _
                  rw [HAt2.out, show decide (k = 0) = false by simpa using hk0, show k - 1 = q by omega]; rfl
                have HQI : Hid (q < NW ∧ (q : Int) < (NW : Int)) := by
                  show _ ∧ _
                  omega
                have HFF0 : Hid (∀ W, Below wr.drew.heap.size wr.drew W → Calls Try.prog 34 #[.agg #[.slice a0 R c0, .slice a1 n1 c1, .slice a2 R c2], .int .i64 (way.getD q 0), .int .i64 x] W (Calm (.bool (decide (x ∈ g.succ.getD (way.getD q 0).toNat []))) W)) := fun W h => by
                  have hy : way.getD q 0 = (((way.getD q 0).toNat : Nat) : Int) := by omega
                  have := HFW2.out W (HE0.out W (HBw.out W h)) (way.getD q 0).toNat x (by rw [HRE.out]; omega)
                  rw [← hy] at this
                  exact this
                generalize way.getD q 0 = y at *
                have HKQ := Lib.hid hkq
                clear hk0 hkq y0 y1 hNWq
                cases hd : decide (x ∈ g.succ.getD y.toNat [])
                · have HE := Lib.hid (HBad.out (by rw [HAt3.out, hd]))
                  rw [hd] at HFF0
                  have HFF := HFF0
                  clear hd HFF0
                  go_upto_region 7 with (fail)
                  refine region_stable0 hmx (RW7d w.heap.size a0 R c0 a1 n1 c1 a2 c2 bW oW NW cW k x q y) (fun vs => { tmps := (_ :: _ :: _ :: _ :: _ :: _ :: _ :: _ :: _ :: _ :: _ :: _ :: _ :: _ :: _ :: _ :: _ :: _ :: _ :: _ :: _ :: _ :: _ :: _ :: _ :: _ :: _ :: _ :: _ :: _ :: _ :: _ :: _ :: _ :: _ :: _ :: _ :: vs 0 :: vs 1 :: vs 2 :: vs 3 :: vs 4 :: vs 5 :: vs 6 :: vs 7 :: vs 8 :: vs 9 :: vs 10 :: vs 11 :: vs 12 :: vs 13 :: vs 14 :: vs 15 :: vs 16 :: vs 17 :: vs 18 :: vs 19 :: vs 20 :: vs 21 :: vs 22 :: vs 23 :: vs 24 :: vs 25 :: vs 26 :: vs 27 :: vs 28 :: vs 29 :: vs 30 :: vs 31 :: vs 32 :: _ :: _ :: _ :: _ :: _ :: _ :: _ :: _ :: _ :: _ :: _ :: _ :: _ :: _ :: _ :: _ :: _ :: _ :: _ :: _ :: _ :: _ :: _ :: _ :: _ :: _ :: _ :: _ :: []).toArray, defers := _ }) (fun n => [u37, u38, u39, u40, u41, u42, u43, u44, u45, u46, u47, u48, u49, u50, u51, u52, u53, u54, u55, u56, u57, u58, u59, u60, u61, u62, u63, u64, u65, u66, u67, u68, u69].getD n undef) rfl (by kernel_rfl) (fun _ _ _ _ h _ => h) ?step ?fin
                  case step =>
                    intro ix o ho
                    match ix, ho with
                    | 0, ho =>
                      obtain rfl := Option.some.inj ho
                      intro vs W K hB hD hU hK
                      have HK := Lib.hid hK
                      clear hK hD hU ho
                      dsimp only
                      go_simp
                      have h := HK.out _ _ (Below.refl _ _) rfl
                      simp only [upd, Nat.reduceEqDiff, reduceIte] at h
                      exact h
                    | 1, ho =>
                      obtain rfl := Option.some.inj ho
                      intro vs W K hB hD hU hK
                      have HK := Lib.hid hK
                      clear hK hD hU ho
                      dsimp only
                      go_simp
                      have h := HK.out _ _ (Below.refl _ _) rfl
                      simp only [upd, Nat.reduceEqDiff, reduceIte] at h
                      exact h
                    | 2, ho =>
                      obtain rfl := Option.some.inj ho
                      intro vs W K hB hD hU hK
                      have HK := Lib.hid hK
                      have e0 : vs 0 = .slice (some ⟨bW, oW, none⟩) NW cW := dep_of hD 0 (by rfl)
                      have e1 : vs 1 = .int .i64 (k : Int) := dep_of hD 1 (by rfl)
                      clear hK hD hU ho
                      dsimp only
                      go_simp
                      have h := HK.out _ _ (Below.refl _ _) rfl
                      simp only [upd, Nat.reduceEqDiff, reduceIte, e0, e1] at h
                      exact h
                    | 3, ho =>
                      obtain rfl := Option.some.inj ho
                      intro vs W K hB hD hU hK
                      have HK := Lib.hid hK
                      have e2 : vs 2 = .pointer (some ⟨bW, oW + k, none⟩) := dep_of hD 2 (by rfl)
                      have cW := HW.out W hB
                      clear hK hD hU ho
                      dsimp only
                      go_simp
                      have h := HK.out _ _ (Below.refl _ _) rfl
                      simp only [upd, Nat.reduceEqDiff, reduceIte, e2] at h
                      exact h
                    | 4, ho =>
                      obtain rfl := Option.some.inj ho
                      intro vs W K hB hD hU hK
                      have HK := Lib.hid hK
                      have e3 : vs 3 = .int .i64 x := dep_of hD 3 (by rfl)
                      clear hK hD hU ho
                      dsimp only
                      go_simp
                      have h := HK.out _ _ (Below.refl _ _) rfl
                      simp only [upd, Nat.reduceEqDiff, reduceIte, e3] at h
                      exact h
                    | 5, ho =>
                      obtain rfl := Option.some.inj ho
                      intro vs W K hB hD hU hK
                      have HK := Lib.hid hK
                      have e4 : vs 4 = .bool false := dep_of hD 4 (by rfl)
                      clear hK hD hU ho
                      dsimp only
                      go_simp
                      have h := HK.out _ _ (Below.refl _ _) rfl
                      simp only [upd, Nat.reduceEqDiff, reduceIte, e4] at h
                      exact h
                    | 6, ho =>
                      obtain rfl := Option.some.inj ho
                      intro vs W K hB hD hU hK
                      have HK := Lib.hid hK
                      have e5 : vs 5 = .bool false := dep_of hD 5 (by rfl)
                      clear hK hD hU ho
                      dsimp only
                      go_simp
                      have h := HK.out _ _ (Below.refl _ _) rfl
                      simp only [upd, Nat.reduceEqDiff, reduceIte, e5] at h
                      exact h
                    | 7, ho =>
                      obtain rfl := Option.some.inj ho
                      intro vs W K hB hD hU hK
                      have HK := Lib.hid hK
                      have e5 : vs 5 = .bool false := dep_of hD 5 (by rfl)
                      clear hK hD hU ho
                      dsimp only
                      go_simp
                      have h := HK.out _ _ (Below.refl _ _) rfl
                      simp only [upd, Nat.reduceEqDiff, reduceIte, e5] at h
                      exact h
                    | 8, ho =>
                      obtain rfl := Option.some.inj ho
                      intro vs W K hB hD hU hK
                      have HK := Lib.hid hK
                      have e5 : vs 5 = .bool false := dep_of hD 5 (by rfl)
                      have e6 : vs 6 = .slice (some ⟨bW, oW, none⟩) NW cW := dep_of hD 6 (by rfl)
                      have e7 : vs 7 = .int .i64 (k : Int) := dep_of hD 7 (by rfl)
                      clear hK hD hU ho
                      dsimp only
                      go_simp
                      have h := HK.out _ _ (Below.refl _ _) rfl
                      simp only [upd, Nat.reduceEqDiff, reduceIte, e5, e6, e7] at h
                      exact h
                    | 9, ho =>
                      obtain rfl := Option.some.inj ho
                      intro vs W K hB hD hU hK
                      have HK := Lib.hid hK
                      have e5 : vs 5 = .bool false := dep_of hD 5 (by rfl)
                      have e8 : vs 8 = .pointer (some ⟨bW, oW + k, none⟩) := dep_of hD 8 (by rfl)
                      have cW := HW.out W hB
                      clear hK hD hU ho
                      dsimp only
                      go_simp
                      have h := HK.out _ _ (Below.refl _ _) rfl
                      simp only [upd, Nat.reduceEqDiff, reduceIte, e5, e8] at h
                      exact h
                    | 10, ho =>
                      obtain rfl := Option.some.inj ho
                      intro vs W K hB hD hU hK
                      have HK := Lib.hid hK
                      have e5 : vs 5 = .bool false := dep_of hD 5 (by rfl)
                      clear hK hD hU ho
                      dsimp only
                      go_simp
                      have h := HK.out _ _ (Below.refl _ _) rfl
                      simp only [upd, Nat.reduceEqDiff, reduceIte, e5] at h
                      exact h
                    | 11, ho =>
                      obtain rfl := Option.some.inj ho
                      intro vs W K hB hD hU hK
                      have HK := Lib.hid hK
                      have e5 : vs 5 = .bool false := dep_of hD 5 (by rfl)
                      have e10 : vs 10 = .pointer (some ⟨w.heap.size, 0, none⟩) := dep_of hD 10 (by rfl)
                      obtain ⟨d0, d1, d2⟩ := HZ.out W hB
                      clear hK hD hU ho
                      dsimp only
                      go_simp
                      have h := HK.out _ _ (Below.refl _ _) rfl
                      simp only [upd, Nat.reduceEqDiff, reduceIte, e5, e10] at h
                      exact h
                    | 12, ho =>
                      obtain rfl := Option.some.inj ho
                      intro vs W K hB hD hU hK
                      have HK := Lib.hid hK
                      have e5 : vs 5 = .bool false := dep_of hD 5 (by rfl)
                      have e11 : vs 11 = .slice a0 R c0 := dep_of hD 11 (by rfl)
                      clear hK hD hU ho
                      dsimp only
                      go_simp
                      have h := HK.out _ _ (Below.refl _ _) rfl
                      simp only [upd, Nat.reduceEqDiff, reduceIte, e5, e11] at h
                      exact h
                    | 13, ho =>
                      obtain rfl := Option.some.inj ho
                      intro vs W K hB hD hU hK
                      have HK := Lib.hid hK
                      have e5 : vs 5 = .bool false := dep_of hD 5 (by rfl)
                      have e9 : vs 9 = .int .i64 x := dep_of hD 9 (by rfl)
                      have e12 : vs 12 = .int .i64 (R : Int) := dep_of hD 12 (by rfl)
                      clear hK hD hU ho
                      dsimp only
                      go_simp
                      have h := HK.out _ _ (Below.refl _ _) rfl
                      simp only [upd, Nat.reduceEqDiff, reduceIte, e5, e9, e12] at h
                      exact h
                    | 14, ho =>
                      obtain rfl := Option.some.inj ho
                      intro vs W K hB hD hU hK
                      have HK := Lib.hid hK
                      have e5 : vs 5 = .bool false := dep_of hD 5 (by rfl)
                      have e13 : vs 13 = .bool false := dep_of hD 13 (by rfl)
                      clear hK hD hU ho
                      dsimp only
                      go_simp
                      have h := HK.out _ _ (Below.refl _ _) rfl
                      simp only [upd, Nat.reduceEqDiff, reduceIte, e5, e13] at h
                      exact h
                    | 15, ho =>
                      obtain rfl := Option.some.inj ho
                      intro vs W K hB hD hU hK
                      have HK := Lib.hid hK
                      have e14 : vs 14 = .bool false := dep_of hD 14 (by rfl)
                      clear hK hD hU ho
                      dsimp only
                      go_simp
                      have h := HK.out _ _ (Below.refl _ _) rfl
                      simp only [upd, Nat.reduceEqDiff, reduceIte, e14] at h
                      exact h
                    | 16, ho =>
                      obtain rfl := Option.some.inj ho
                      intro vs W K hB hD hU hK
                      have HK := Lib.hid hK
                      have e15 : vs 15 = .bool false := dep_of hD 15 (by rfl)
                      clear hK hD hU ho
                      dsimp only
                      go_simp
                      have h := HK.out _ _ (Below.refl _ _) rfl
                      simp only [upd, Nat.reduceEqDiff, reduceIte, e15] at h
                      exact h
                    | 17, ho =>
                      obtain rfl := Option.some.inj ho
                      intro vs W K hB hD hU hK
                      have HK := Lib.hid hK
                      have e15 : vs 15 = .bool false := dep_of hD 15 (by rfl)
                      have e16 : vs 16 = .int .i64 (k : Int) := dep_of hD 16 (by rfl)
                      clear hK hD hU ho
                      dsimp only
                      go_simp
                      have h := HK.out _ _ (Below.refl _ _) rfl
                      simp only [upd, Nat.reduceEqDiff, reduceIte, e15, e16] at h
                      exact h
                    | 18, ho =>
                      obtain rfl := Option.some.inj ho
                      intro vs W K hB hD hU hK
                      have HK := Lib.hid hK
                      have e15 : vs 15 = .bool false := dep_of hD 15 (by rfl)
                      have e17 : vs 17 = .bool true := dep_of hD 17 (by rfl)
                      clear hK hD hU ho
                      dsimp only
                      go_simp
                      have h := HK.out _ _ (Below.refl _ _) rfl
                      simp only [upd, Nat.reduceEqDiff, reduceIte, e15, e17] at h
                      exact h
                    | 19, ho =>
                      obtain rfl := Option.some.inj ho
                      intro vs W K hB hD hU hK
                      have HK := Lib.hid hK
                      have e18 : vs 18 = .bool true := dep_of hD 18 (by rfl)
                      obtain ⟨d0, d1, d2⟩ := HZ.out W hB
                      clear hK hD hU ho
                      dsimp only
                      go_simp
                      have h := HK.out _ _ (Below.refl _ _) rfl
                      simp only [upd, Nat.reduceEqDiff, reduceIte, e18] at h
                      exact h
                    | 20, ho =>
                      obtain rfl := Option.some.inj ho
                      intro vs W K hB hD hU hK
                      have HK := Lib.hid hK
                      have e18 : vs 18 = .bool true := dep_of hD 18 (by rfl)
                      clear hK hD hU ho
                      dsimp only
                      go_simp
                      have h := HK.out _ _ (Below.refl _ _) rfl
                      simp only [upd, Nat.reduceEqDiff, reduceIte, e18] at h
                      exact h
                    | 21, ho =>
                      obtain rfl := Option.some.inj ho
                      intro vs W K hB hD hU hK
                      have HK := Lib.hid hK
                      have e18 : vs 18 = .bool true := dep_of hD 18 (by rfl)
                      clear hK hD hU ho
                      dsimp only
                      go_simp
                      have h := HK.out _ _ (Below.refl _ _) rfl
                      simp only [upd, Nat.reduceEqDiff, reduceIte, e18] at h
                      exact h
                    | 22, ho =>
                      obtain rfl := Option.some.inj ho
                      intro vs W K hB hD hU hK
                      have HK := Lib.hid hK
                      have e18 : vs 18 = .bool true := dep_of hD 18 (by rfl)
                      have e21 : vs 21 = .int .i64 (k : Int) := dep_of hD 21 (by rfl)
                      clear hK hD hU ho
                      dsimp only
                      go_simp
                      have h := HK.out _ _ (Below.refl _ _) rfl
                      simp only [upd, Nat.reduceEqDiff, reduceIte, e18, e21] at h
                      exact h
                    | 23, ho =>
                      obtain rfl := Option.some.inj ho
                      intro vs W K hB hD hU hK
                      have HK := Lib.hid hK
                      have e18 : vs 18 = .bool true := dep_of hD 18 (by rfl)
                      have e20 : vs 20 = .slice (some ⟨bW, oW, none⟩) NW cW := dep_of hD 20 (by rfl)
                      have e22 : vs 22 = .int .i64 (q : Int) := dep_of hD 22 (by rfl)
                      obtain ⟨hq1, hq2⟩ := HQI.out
                      clear hK hD hU ho
                      dsimp only
                      go_simp
                      have h := HK.out _ _ (Below.refl _ _) rfl
                      simp only [upd, Nat.reduceEqDiff, reduceIte, e18, e20, e22] at h
                      exact h
                    | 24, ho =>
                      obtain rfl := Option.some.inj ho
                      intro vs W K hB hD hU hK
                      have HK := Lib.hid hK
                      have e18 : vs 18 = .bool true := dep_of hD 18 (by rfl)
                      have e23 : vs 23 = .pointer (some ⟨bW, oW + q, none⟩) := dep_of hD 23 (by rfl)
                      have cQ := HQ.out W hB
                      clear hK hD hU ho
                      dsimp only
                      go_simp
                      have h := HK.out _ _ (Below.refl _ _) rfl
                      simp only [upd, Nat.reduceEqDiff, reduceIte, e18, e23] at h
                      exact h
                    | 25, ho =>
                      obtain rfl := Option.some.inj ho
                      intro vs W K hB hD hU hK
                      have HK := Lib.hid hK
                      have e18 : vs 18 = .bool true := dep_of hD 18 (by rfl)
                      clear hK hD hU ho
                      dsimp only
                      go_simp
                      have h := HK.out _ _ (Below.refl _ _) rfl
                      simp only [upd, Nat.reduceEqDiff, reduceIte, e18] at h
                      exact h
                    | 26, ho =>
                      obtain rfl := Option.some.inj ho
                      intro vs W K hB hD hU hK
                      have HK := Lib.hid hK
                      have e18 : vs 18 = .bool true := dep_of hD 18 (by rfl)
                      clear hK hD hU ho
                      dsimp only
                      go_simp
                      have h := HK.out _ _ (Below.refl _ _) rfl
                      simp only [upd, Nat.reduceEqDiff, reduceIte, e18] at h
                      exact h
                    | 27, ho =>
                      obtain rfl := Option.some.inj ho
                      intro vs W K hB hD hU hK
                      have HK := Lib.hid hK
                      have e18 : vs 18 = .bool true := dep_of hD 18 (by rfl)
                      have e25 : vs 25 = .slice (some ⟨bW, oW, none⟩) NW cW := dep_of hD 25 (by rfl)
                      have e26 : vs 26 = .int .i64 (k : Int) := dep_of hD 26 (by rfl)
                      clear hK hD hU ho
                      dsimp only
                      go_simp
                      have h := HK.out _ _ (Below.refl _ _) rfl
                      simp only [upd, Nat.reduceEqDiff, reduceIte, e18, e25, e26] at h
                      exact h
                    | 28, ho =>
                      obtain rfl := Option.some.inj ho
                      intro vs W K hB hD hU hK
                      have HK := Lib.hid hK
                      have e18 : vs 18 = .bool true := dep_of hD 18 (by rfl)
                      have e27 : vs 27 = .pointer (some ⟨bW, oW + k, none⟩) := dep_of hD 27 (by rfl)
                      have cW := HW.out W hB
                      clear hK hD hU ho
                      dsimp only
                      go_simp
                      have h := HK.out _ _ (Below.refl _ _) rfl
                      simp only [upd, Nat.reduceEqDiff, reduceIte, e18, e27] at h
                      exact h
                    | 29, ho =>
                      obtain rfl := Option.some.inj ho
                      intro vs W K hB hD hU hK
                      have HK := Lib.hid hK
                      have e18 : vs 18 = .bool true := dep_of hD 18 (by rfl)
                      have e19 : vs 19 = .agg #[.slice a0 R c0, .slice a1 n1 c1, .slice a2 R c2] := dep_of hD 19 (by rfl)
                      have e24 : vs 24 = .int .i64 y := dep_of hD 24 (by rfl)
                      have e28 : vs 28 = .int .i64 x := dep_of hD 28 (by rfl)
                      clear hK hD hU ho
                      dsimp only
                      go_simp
                      refine (HFF.out W hB).mono ?_
                      rintro e W' ⟨rfl, hb⟩
                      have h := HK.out _ _ hb rfl
                      simp only [upd, Nat.reduceEqDiff, reduceIte, e18, e19, e24, e28] at h
                      exact h
                    | 30, ho =>
                      obtain rfl := Option.some.inj ho
                      intro vs W K hB hD hU hK
                      have HK := Lib.hid hK
                      have e18 : vs 18 = .bool true := dep_of hD 18 (by rfl)
                      have e29 : vs 29 = .bool false := dep_of hD 29 (by rfl)
                      clear hK hD hU ho
                      dsimp only
                      go_simp
                      have h := HK.out _ _ (Below.refl _ _) rfl
                      simp only [upd, Nat.reduceEqDiff, reduceIte, e18, e29] at h
                      exact h
                    | 31, ho =>
                      obtain rfl := Option.some.inj ho
                      intro vs W K hB hD hU hK
                      have HK := Lib.hid hK
                      have e15 : vs 15 = .bool false := dep_of hD 15 (by rfl)
                      have e18 : vs 18 = .bool true := dep_of hD 18 (by rfl)
                      have e30 : vs 30 = .bool true := dep_of hD 30 (by rfl)
                      clear hK hD hU ho
                      dsimp only
                      go_simp
                      have h := HK.out _ _ (Below.refl _ _) rfl
                      simp only [upd, Nat.reduceEqDiff, reduceIte, e15, e18, e30] at h
                      exact h
                    | 32, ho =>
                      obtain rfl := Option.some.inj ho
                      intro vs W K hB hD hU hK
                      have HK := Lib.hid hK
                      have e15 : vs 15 = .bool false := dep_of hD 15 (by rfl)
                      have e31 : vs 31 = .bool true := dep_of hD 31 (by rfl)
                      clear hK hD hU ho
                      dsimp only
                      go_simp
                      have h := HK.out _ _ (Below.refl _ _) rfl
                      simp only [upd, Nat.reduceEqDiff, reduceIte, e15, e31] at h
                      exact h
                    | q + 33, ho => exact absurd ho (by simp)
                  case fin =>
                    intro vs W hB hall
                    have e32 : vs 32 = .bool true := hall 32 (by decide)
                    have hB3 := (Below.drew (B := wr.heap.size) (Below.refl _ wr)).trans hB
                    clear hall hB
                    rw [e32]
                    clear e32
                    generalize vs 0 = z0q
                    generalize vs 1 = z1q
                    generalize vs 2 = z2q
                    generalize vs 3 = z3q
                    generalize vs 4 = z4q
                    generalize vs 5 = z5q
                    generalize vs 6 = z6q
                    generalize vs 7 = z7q
                    generalize vs 8 = z8q
                    generalize vs 9 = z9q
                    generalize vs 10 = z10q
                    generalize vs 11 = z11q
                    generalize vs 12 = z12q
                    generalize vs 13 = z13q
                    generalize vs 14 = z14q
                    generalize vs 15 = z15q
                    generalize vs 16 = z16q
                    generalize vs 17 = z17q
                    generalize vs 18 = z18q
                    generalize vs 19 = z19q
                    generalize vs 20 = z20q
                    generalize vs 21 = z21q
                    generalize vs 22 = z22q
                    generalize vs 23 = z23q
                    generalize vs 24 = z24q
                    generalize vs 25 = z25q
                    generalize vs 26 = z26q
                    generalize vs 27 = z27q
                    generalize vs 28 = z28q
                    generalize vs 29 = z29q
                    generalize vs 30 = z30q
                    generalize vs 31 = z31q
                    clear vs
                    have hBn := HE0.out _ (HBr.out.trans (hB3.mono HBr.out.size))
                    go_wp2
                    go_ret
                    exact ⟨ret_int HE.out.symm, hBn⟩
                · have HOk1 : Hid (∀ j, j < k + 1 → okAt g way j = true) := fun j hj => by
                    by_cases e : j = k
                    · rw [e, HAt3.out, hd]
                    · exact HOk0.out j (by omega)
                  rw [hd] at HFF0
                  have HFF := HFF0
                  clear hd HFF0
                  go_upto_region 7 with (fail)
                  refine region_stable0 hmx (RW7e w.heap.size a0 R c0 a1 n1 c1 a2 c2 bW oW NW cW k x q y) (fun vs => { tmps := (_ :: _ :: _ :: _ :: _ :: _ :: _ :: _ :: _ :: _ :: _ :: _ :: _ :: _ :: _ :: _ :: _ :: _ :: _ :: _ :: _ :: _ :: _ :: _ :: _ :: _ :: _ :: _ :: _ :: _ :: _ :: _ :: _ :: _ :: _ :: _ :: _ :: vs 0 :: vs 1 :: vs 2 :: vs 3 :: vs 4 :: vs 5 :: vs 6 :: vs 7 :: vs 8 :: vs 9 :: vs 10 :: vs 11 :: vs 12 :: vs 13 :: vs 14 :: vs 15 :: vs 16 :: vs 17 :: vs 18 :: vs 19 :: vs 20 :: vs 21 :: vs 22 :: vs 23 :: vs 24 :: vs 25 :: vs 26 :: vs 27 :: vs 28 :: vs 29 :: vs 30 :: vs 31 :: vs 32 :: _ :: _ :: _ :: _ :: _ :: _ :: _ :: _ :: _ :: _ :: _ :: _ :: _ :: _ :: _ :: _ :: _ :: _ :: _ :: _ :: _ :: _ :: _ :: _ :: _ :: _ :: _ :: _ :: []).toArray, defers := _ }) (fun n => [u37, u38, u39, u40, u41, u42, u43, u44, u45, u46, u47, u48, u49, u50, u51, u52, u53, u54, u55, u56, u57, u58, u59, u60, u61, u62, u63, u64, u65, u66, u67, u68, u69].getD n undef) rfl (by kernel_rfl) (fun _ _ _ _ h _ => h) ?step ?fin
                  case step =>
                    intro ix o ho
                    match ix, ho with
                    | 0, ho =>
                      obtain rfl := Option.some.inj ho
                      intro vs W K hB hD hU hK
                      have HK := Lib.hid hK
                      clear hK hD hU ho
                      dsimp only
                      go_simp
                      have h := HK.out _ _ (Below.refl _ _) rfl
                      simp only [upd, Nat.reduceEqDiff, reduceIte] at h
                      exact h
                    | 1, ho =>
                      obtain rfl := Option.some.inj ho
                      intro vs W K hB hD hU hK
                      have HK := Lib.hid hK
                      clear hK hD hU ho
                      dsimp only
                      go_simp
                      have h := HK.out _ _ (Below.refl _ _) rfl
                      simp only [upd, Nat.reduceEqDiff, reduceIte] at h
                      exact h
                    | 2, ho =>
                      obtain rfl := Option.some.inj ho
                      intro vs W K hB hD hU hK
                      have HK := Lib.hid hK
                      have e0 : vs 0 = .slice (some ⟨bW, oW, none⟩) NW cW := dep_of hD 0 (by rfl)
                      have e1 : vs 1 = .int .i64 (k : Int) := dep_of hD 1 (by rfl)
                      clear hK hD hU ho
                      dsimp only
                      go_simp
                      have h := HK.out _ _ (Below.refl _ _) rfl
                      simp only [upd, Nat.reduceEqDiff, reduceIte, e0, e1] at h
                      exact h
                    | 3, ho =>
                      obtain rfl := Option.some.inj ho
                      intro vs W K hB hD hU hK
                      have HK := Lib.hid hK
                      have e2 : vs 2 = .pointer (some ⟨bW, oW + k, none⟩) := dep_of hD 2 (by rfl)
                      have cW := HW.out W hB
                      clear hK hD hU ho
                      dsimp only
                      go_simp
                      have h := HK.out _ _ (Below.refl _ _) rfl
                      simp only [upd, Nat.reduceEqDiff, reduceIte, e2] at h
                      exact h
                    | 4, ho =>
                      obtain rfl := Option.some.inj ho
                      intro vs W K hB hD hU hK
                      have HK := Lib.hid hK
                      have e3 : vs 3 = .int .i64 x := dep_of hD 3 (by rfl)
                      clear hK hD hU ho
                      dsimp only
                      go_simp
                      have h := HK.out _ _ (Below.refl _ _) rfl
                      simp only [upd, Nat.reduceEqDiff, reduceIte, e3] at h
                      exact h
                    | 5, ho =>
                      obtain rfl := Option.some.inj ho
                      intro vs W K hB hD hU hK
                      have HK := Lib.hid hK
                      have e4 : vs 4 = .bool false := dep_of hD 4 (by rfl)
                      clear hK hD hU ho
                      dsimp only
                      go_simp
                      have h := HK.out _ _ (Below.refl _ _) rfl
                      simp only [upd, Nat.reduceEqDiff, reduceIte, e4] at h
                      exact h
                    | 6, ho =>
                      obtain rfl := Option.some.inj ho
                      intro vs W K hB hD hU hK
                      have HK := Lib.hid hK
                      have e5 : vs 5 = .bool false := dep_of hD 5 (by rfl)
                      clear hK hD hU ho
                      dsimp only
                      go_simp
                      have h := HK.out _ _ (Below.refl _ _) rfl
                      simp only [upd, Nat.reduceEqDiff, reduceIte, e5] at h
                      exact h
                    | 7, ho =>
                      obtain rfl := Option.some.inj ho
                      intro vs W K hB hD hU hK
                      have HK := Lib.hid hK
                      have e5 : vs 5 = .bool false := dep_of hD 5 (by rfl)
                      clear hK hD hU ho
                      dsimp only
                      go_simp
                      have h := HK.out _ _ (Below.refl _ _) rfl
                      simp only [upd, Nat.reduceEqDiff, reduceIte, e5] at h
                      exact h
                    | 8, ho =>
                      obtain rfl := Option.some.inj ho
                      intro vs W K hB hD hU hK
                      have HK := Lib.hid hK
                      have e5 : vs 5 = .bool false := dep_of hD 5 (by rfl)
                      have e6 : vs 6 = .slice (some ⟨bW, oW, none⟩) NW cW := dep_of hD 6 (by rfl)
                      have e7 : vs 7 = .int .i64 (k : Int) := dep_of hD 7 (by rfl)
                      clear hK hD hU ho
                      dsimp only
                      go_simp
                      have h := HK.out _ _ (Below.refl _ _) rfl
                      simp only [upd, Nat.reduceEqDiff, reduceIte, e5, e6, e7] at h
                      exact h
                    | 9, ho =>
                      obtain rfl := Option.some.inj ho
                      intro vs W K hB hD hU hK
                      have HK := Lib.hid hK
                      have e5 : vs 5 = .bool false := dep_of hD 5 (by rfl)
                      have e8 : vs 8 = .pointer (some ⟨bW, oW + k, none⟩) := dep_of hD 8 (by rfl)
                      have cW := HW.out W hB
                      clear hK hD hU ho
                      dsimp only
                      go_simp
                      have h := HK.out _ _ (Below.refl _ _) rfl
                      simp only [upd, Nat.reduceEqDiff, reduceIte, e5, e8] at h
                      exact h
                    | 10, ho =>
                      obtain rfl := Option.some.inj ho
                      intro vs W K hB hD hU hK
                      have HK := Lib.hid hK
                      have e5 : vs 5 = .bool false := dep_of hD 5 (by rfl)
                      clear hK hD hU ho
                      dsimp only
                      go_simp
                      have h := HK.out _ _ (Below.refl _ _) rfl
                      simp only [upd, Nat.reduceEqDiff, reduceIte, e5] at h
                      exact h
                    | 11, ho =>
                      obtain rfl := Option.some.inj ho
                      intro vs W K hB hD hU hK
                      have HK := Lib.hid hK
                      have e5 : vs 5 = .bool false := dep_of hD 5 (by rfl)
                      have e10 : vs 10 = .pointer (some ⟨w.heap.size, 0, none⟩) := dep_of hD 10 (by rfl)
                      obtain ⟨d0, d1, d2⟩ := HZ.out W hB
                      clear hK hD hU ho
                      dsimp only
                      go_simp
                      have h := HK.out _ _ (Below.refl _ _) rfl
                      simp only [upd, Nat.reduceEqDiff, reduceIte, e5, e10] at h
                      exact h
                    | 12, ho =>
                      obtain rfl := Option.some.inj ho
                      intro vs W K hB hD hU hK
                      have HK := Lib.hid hK
                      have e5 : vs 5 = .bool false := dep_of hD 5 (by rfl)
                      have e11 : vs 11 = .slice a0 R c0 := dep_of hD 11 (by rfl)
                      clear hK hD hU ho
                      dsimp only
                      go_simp
                      have h := HK.out _ _ (Below.refl _ _) rfl
                      simp only [upd, Nat.reduceEqDiff, reduceIte, e5, e11] at h
                      exact h
                    | 13, ho =>
                      obtain rfl := Option.some.inj ho
                      intro vs W K hB hD hU hK
                      have HK := Lib.hid hK
                      have e5 : vs 5 = .bool false := dep_of hD 5 (by rfl)
                      have e9 : vs 9 = .int .i64 x := dep_of hD 9 (by rfl)
                      have e12 : vs 12 = .int .i64 (R : Int) := dep_of hD 12 (by rfl)
                      clear hK hD hU ho
                      dsimp only
                      go_simp
                      have h := HK.out _ _ (Below.refl _ _) rfl
                      simp only [upd, Nat.reduceEqDiff, reduceIte, e5, e9, e12] at h
                      exact h
                    | 14, ho =>
                      obtain rfl := Option.some.inj ho
                      intro vs W K hB hD hU hK
                      have HK := Lib.hid hK
                      have e5 : vs 5 = .bool false := dep_of hD 5 (by rfl)
                      have e13 : vs 13 = .bool false := dep_of hD 13 (by rfl)
                      clear hK hD hU ho
                      dsimp only
                      go_simp
                      have h := HK.out _ _ (Below.refl _ _) rfl
                      simp only [upd, Nat.reduceEqDiff, reduceIte, e5, e13] at h
                      exact h
                    | 15, ho =>
                      obtain rfl := Option.some.inj ho
                      intro vs W K hB hD hU hK
                      have HK := Lib.hid hK
                      have e14 : vs 14 = .bool false := dep_of hD 14 (by rfl)
                      clear hK hD hU ho
                      dsimp only
                      go_simp
                      have h := HK.out _ _ (Below.refl _ _) rfl
                      simp only [upd, Nat.reduceEqDiff, reduceIte, e14] at h
                      exact h
                    | 16, ho =>
                      obtain rfl := Option.some.inj ho
                      intro vs W K hB hD hU hK
                      have HK := Lib.hid hK
                      have e15 : vs 15 = .bool false := dep_of hD 15 (by rfl)
                      clear hK hD hU ho
                      dsimp only
                      go_simp
                      have h := HK.out _ _ (Below.refl _ _) rfl
                      simp only [upd, Nat.reduceEqDiff, reduceIte, e15] at h
                      exact h
                    | 17, ho =>
                      obtain rfl := Option.some.inj ho
                      intro vs W K hB hD hU hK
                      have HK := Lib.hid hK
                      have e15 : vs 15 = .bool false := dep_of hD 15 (by rfl)
                      have e16 : vs 16 = .int .i64 (k : Int) := dep_of hD 16 (by rfl)
                      clear hK hD hU ho
                      dsimp only
                      go_simp
                      have h := HK.out _ _ (Below.refl _ _) rfl
                      simp only [upd, Nat.reduceEqDiff, reduceIte, e15, e16] at h
                      exact h
                    | 18, ho =>
                      obtain rfl := Option.some.inj ho
                      intro vs W K hB hD hU hK
                      have HK := Lib.hid hK
                      have e15 : vs 15 = .bool false := dep_of hD 15 (by rfl)
                      have e17 : vs 17 = .bool true := dep_of hD 17 (by rfl)
                      clear hK hD hU ho
                      dsimp only
                      go_simp
                      have h := HK.out _ _ (Below.refl _ _) rfl
                      simp only [upd, Nat.reduceEqDiff, reduceIte, e15, e17] at h
                      exact h
                    | 19, ho =>
                      obtain rfl := Option.some.inj ho
                      intro vs W K hB hD hU hK
                      have HK := Lib.hid hK
                      have e18 : vs 18 = .bool true := dep_of hD 18 (by rfl)
                      obtain ⟨d0, d1, d2⟩ := HZ.out W hB
                      clear hK hD hU ho
                      dsimp only
                      go_simp
                      have h := HK.out _ _ (Below.refl _ _) rfl
                      simp only [upd, Nat.reduceEqDiff, reduceIte, e18] at h
                      exact h
                    | 20, ho =>
                      obtain rfl := Option.some.inj ho
                      intro vs W K hB hD hU hK
                      have HK := Lib.hid hK
                      have e18 : vs 18 = .bool true := dep_of hD 18 (by rfl)
                      clear hK hD hU ho
                      dsimp only
                      go_simp
                      have h := HK.out _ _ (Below.refl _ _) rfl
                      simp only [upd, Nat.reduceEqDiff, reduceIte, e18] at h
                      exact h
                    | 21, ho =>
                      obtain rfl := Option.some.inj ho
                      intro vs W K hB hD hU hK
                      have HK := Lib.hid hK
                      have e18 : vs 18 = .bool true := dep_of hD 18 (by rfl)
                      clear hK hD hU ho
                      dsimp only
                      go_simp
                      have h := HK.out _ _ (Below.refl _ _) rfl
                      simp only [upd, Nat.reduceEqDiff, reduceIte, e18] at h
                      exact h
                    | 22, ho =>
                      obtain rfl := Option.some.inj ho
                      intro vs W K hB hD hU hK
                      have HK := Lib.hid hK
                      have e18 : vs 18 = .bool true := dep_of hD 18 (by rfl)
                      have e21 : vs 21 = .int .i64 (k : Int) := dep_of hD 21 (by rfl)
                      clear hK hD hU ho
                      dsimp only
                      go_simp
                      have h := HK.out _ _ (Below.refl _ _) rfl
                      simp only [upd, Nat.reduceEqDiff, reduceIte, e18, e21] at h
                      exact h
                    | 23, ho =>
                      obtain rfl := Option.some.inj ho
                      intro vs W K hB hD hU hK
                      have HK := Lib.hid hK
                      have e18 : vs 18 = .bool true := dep_of hD 18 (by rfl)
                      have e20 : vs 20 = .slice (some ⟨bW, oW, none⟩) NW cW := dep_of hD 20 (by rfl)
                      have e22 : vs 22 = .int .i64 (q : Int) := dep_of hD 22 (by rfl)
                      obtain ⟨hq1, hq2⟩ := HQI.out
                      clear hK hD hU ho
                      dsimp only
                      go_simp
                      have h := HK.out _ _ (Below.refl _ _) rfl
                      simp only [upd, Nat.reduceEqDiff, reduceIte, e18, e20, e22] at h
                      exact h
                    | 24, ho =>
                      obtain rfl := Option.some.inj ho
                      intro vs W K hB hD hU hK
                      have HK := Lib.hid hK
                      have e18 : vs 18 = .bool true := dep_of hD 18 (by rfl)
                      have e23 : vs 23 = .pointer (some ⟨bW, oW + q, none⟩) := dep_of hD 23 (by rfl)
                      have cQ := HQ.out W hB
                      clear hK hD hU ho
                      dsimp only
                      go_simp
                      have h := HK.out _ _ (Below.refl _ _) rfl
                      simp only [upd, Nat.reduceEqDiff, reduceIte, e18, e23] at h
                      exact h
                    | 25, ho =>
                      obtain rfl := Option.some.inj ho
                      intro vs W K hB hD hU hK
                      have HK := Lib.hid hK
                      have e18 : vs 18 = .bool true := dep_of hD 18 (by rfl)
                      clear hK hD hU ho
                      dsimp only
                      go_simp
                      have h := HK.out _ _ (Below.refl _ _) rfl
                      simp only [upd, Nat.reduceEqDiff, reduceIte, e18] at h
                      exact h
                    | 26, ho =>
                      obtain rfl := Option.some.inj ho
                      intro vs W K hB hD hU hK
                      have HK := Lib.hid hK
                      have e18 : vs 18 = .bool true := dep_of hD 18 (by rfl)
                      clear hK hD hU ho
                      dsimp only
                      go_simp
                      have h := HK.out _ _ (Below.refl _ _) rfl
                      simp only [upd, Nat.reduceEqDiff, reduceIte, e18] at h
                      exact h
                    | 27, ho =>
                      obtain rfl := Option.some.inj ho
                      intro vs W K hB hD hU hK
                      have HK := Lib.hid hK
                      have e18 : vs 18 = .bool true := dep_of hD 18 (by rfl)
                      have e25 : vs 25 = .slice (some ⟨bW, oW, none⟩) NW cW := dep_of hD 25 (by rfl)
                      have e26 : vs 26 = .int .i64 (k : Int) := dep_of hD 26 (by rfl)
                      clear hK hD hU ho
                      dsimp only
                      go_simp
                      have h := HK.out _ _ (Below.refl _ _) rfl
                      simp only [upd, Nat.reduceEqDiff, reduceIte, e18, e25, e26] at h
                      exact h
                    | 28, ho =>
                      obtain rfl := Option.some.inj ho
                      intro vs W K hB hD hU hK
                      have HK := Lib.hid hK
                      have e18 : vs 18 = .bool true := dep_of hD 18 (by rfl)
                      have e27 : vs 27 = .pointer (some ⟨bW, oW + k, none⟩) := dep_of hD 27 (by rfl)
                      have cW := HW.out W hB
                      clear hK hD hU ho
                      dsimp only
                      go_simp
                      have h := HK.out _ _ (Below.refl _ _) rfl
                      simp only [upd, Nat.reduceEqDiff, reduceIte, e18, e27] at h
                      exact h
                    | 29, ho =>
                      obtain rfl := Option.some.inj ho
                      intro vs W K hB hD hU hK
                      have HK := Lib.hid hK
                      have e18 : vs 18 = .bool true := dep_of hD 18 (by rfl)
                      have e19 : vs 19 = .agg #[.slice a0 R c0, .slice a1 n1 c1, .slice a2 R c2] := dep_of hD 19 (by rfl)
                      have e24 : vs 24 = .int .i64 y := dep_of hD 24 (by rfl)
                      have e28 : vs 28 = .int .i64 x := dep_of hD 28 (by rfl)
                      clear hK hD hU ho
                      dsimp only
                      go_simp
                      refine (HFF.out W hB).mono ?_
                      rintro e W' ⟨rfl, hb⟩
                      have h := HK.out _ _ hb rfl
                      simp only [upd, Nat.reduceEqDiff, reduceIte, e18, e19, e24, e28] at h
                      exact h
                    | 30, ho =>
                      obtain rfl := Option.some.inj ho
                      intro vs W K hB hD hU hK
                      have HK := Lib.hid hK
                      have e18 : vs 18 = .bool true := dep_of hD 18 (by rfl)
                      have e29 : vs 29 = .bool true := dep_of hD 29 (by rfl)
                      clear hK hD hU ho
                      dsimp only
                      go_simp
                      have h := HK.out _ _ (Below.refl _ _) rfl
                      simp only [upd, Nat.reduceEqDiff, reduceIte, e18, e29] at h
                      exact h
                    | 31, ho =>
                      obtain rfl := Option.some.inj ho
                      intro vs W K hB hD hU hK
                      have HK := Lib.hid hK
                      have e15 : vs 15 = .bool false := dep_of hD 15 (by rfl)
                      have e18 : vs 18 = .bool true := dep_of hD 18 (by rfl)
                      have e30 : vs 30 = .bool false := dep_of hD 30 (by rfl)
                      clear hK hD hU ho
                      dsimp only
                      go_simp
                      have h := HK.out _ _ (Below.refl _ _) rfl
                      simp only [upd, Nat.reduceEqDiff, reduceIte, e15, e18, e30] at h
                      exact h
                    | 32, ho =>
                      obtain rfl := Option.some.inj ho
                      intro vs W K hB hD hU hK
                      have HK := Lib.hid hK
                      have e15 : vs 15 = .bool false := dep_of hD 15 (by rfl)
                      have e31 : vs 31 = .bool false := dep_of hD 31 (by rfl)
                      clear hK hD hU ho
                      dsimp only
                      go_simp
                      have h := HK.out _ _ (Below.refl _ _) rfl
                      simp only [upd, Nat.reduceEqDiff, reduceIte, e15, e31] at h
                      exact h
                    | q + 33, ho => exact absurd ho (by simp)
                  case fin =>
                    intro vs W hB hall
                    have e32 : vs 32 = .bool false := hall 32 (by decide)
                    have hB3 := (Below.drew (B := wr.heap.size) (Below.refl _ wr)).trans hB
                    clear hall hB
                    rw [e32]
                    clear e32
                    generalize vs 0 = z0q
                    generalize vs 1 = z1q
                    generalize vs 2 = z2q
                    generalize vs 3 = z3q
                    generalize vs 4 = z4q
                    generalize vs 5 = z5q
                    generalize vs 6 = z6q
                    generalize vs 7 = z7q
                    generalize vs 8 = z8q
                    generalize vs 9 = z9q
                    generalize vs 10 = z10q
                    generalize vs 11 = z11q
                    generalize vs 12 = z12q
                    generalize vs 13 = z13q
                    generalize vs 14 = z14q
                    generalize vs 15 = z15q
                    generalize vs 16 = z16q
                    generalize vs 17 = z17q
                    generalize vs 18 = z18q
                    generalize vs 19 = z19q
                    generalize vs 20 = z20q
                    generalize vs 21 = z21q
                    generalize vs 22 = z22q
                    generalize vs 23 = z23q
                    generalize vs 24 = z24q
                    generalize vs 25 = z25q
                    generalize vs 26 = z26q
                    generalize vs 27 = z27q
                    generalize vs 28 = z28q
                    generalize vs 29 = z29q
                    generalize vs 30 = z30q
                    generalize vs 31 = z31q
                    clear vs
                    have hBn := HBr.out.trans (hB3.mono HBr.out.size)
                    clear hB3
                    go_wp2
                    go_roundg (NW - (k + 1))
                    case measure => have := HGK.out; omega
                    case rel => exact ⟨k + 1, rfl, by go_num, by omega, hBn, HOk1⟩
        · obtain rfl : k = NW := by omega
          have HOW : Hid (okW g way = true) := List.all_eq_true.2 fun j hj => HOk.out j (by rw [HNW.out]; exact List.mem_range.1 hj)
          have HWE : Hid (winrB g P = leastW g P.loop % 2) := by
            show _ = _
            rw [HWA.out, if_pos HOW.out]
          have HLo := Lib.hid (HLoB.out HOW.out)
          have HB4 := Lib.hid (HB3.out.step hBr)
          have e1 := HB4.out.c1 1 rfl
          have p1 := HB4.out.c2 1 rfl
          have el := HLT.out 0 hl0 wr HB4.out.bl
          rw [Nat.add_zero] at el
          obtain ⟨f0, f1⟩ := HLo.out 0 hl0
          have HPr : Hid (IsInts wr (.slice a1 n1 c1) g.prio) := HN1.out ▸ HI1.out.below HB4.out.bl
          have hpl : n1 = R := by rw [HN1.out, HL3.out.2.1, HRE.out]
          have HPL := Lib.hid hpl
          obtain ⟨bP, oP, hpd, -, hpt⟩ := HPr.out.dat
          rw [← HRE.out] at f1
          obtain rfl := hpd (by omega)
          have HPT := Lib.hid hpt
          have HLS := Lib.hid (fun k hk => leastK_snoc g P.loop k hk)
          have HLd := Lib.hid (leastK_all g P.loop)
          have HNN : Hid (∀ k, 0 ≤ leastK g P.loop k) := fun k => least_nn HVT.out _ _ (prio_nn HVT.out _)
          have HZ : Hid (leastK g P.loop 0 = g.prio.getD (P.loop.getD 0 0).toNat 0) := rfl
          generalize hx0 : P.loop.getD 0 0 = x1 at *
          have HX1 := Lib.hid hx0
          obtain ⟨u0, rfl⟩ : ∃ u : Nat, x1 = u := ⟨x1.toNat, by omega⟩
          have hu0n : u0 < n1 := by omega
          have ep := hpt u0 hu0n
          have hu0 : (u0 : Int) < n1 := by omega
          rw [Int.toNat_natCast] at HZ
          have HBE := Lib.hid HB4.out.bl
          clear hpd hpt f0 f1 hx0 hpl hBr
          generalize g.prio.getD u0 0 = pv0 at *
          go_wp2
          go_quiet (fail)
          go_wp2
          clear el ep hu0 e1
          go_loopg [7, 8] P.loop.length (fun gh m i wx => ∃ kk nn : Nat, gh = P.loop.length - kk ∧ i = .int .i64 kk ∧ m = .int .i64 (leastK g P.loop kk) ∧ kk ≤ P.loop.length ∧ wx = wr.drewN nn)
          case atStart => exact ⟨0, _, rfl, rfl, by rw [HZ.out], by omega, rfl⟩
          case round =>
            obtain ⟨kk, nn, hgk, rfl, rfl, hkk, rfl⟩ := hrel
            have HGK2 := Lib.hid hgk
            clear hgk
            have e1 := HB4.out.c1 1 rfl
            by_cases hkl : kk < P.loop.length
            · have el := HLT.out kk hkl wr HBE.out
              obtain ⟨f0, f1⟩ := HLo.out kk hkl
              have HSn := Lib.hid (HLS.out kk hkl)
              rw [← HRE.out] at f1
              generalize P.loop.getD kk 0 = x at *
              obtain ⟨u, rfl⟩ : ∃ u : Nat, x = u := ⟨x.toNat, by omega⟩
              have hup : u < n1 := by rw [HPL.out]; omega
              have ep := HPT.out u hup
              have hui : (u : Int) < n1 := by omega
              have hkI : (kk : Int) < P.loop.length := by omega
              rw [Int.toNat_natCast] at HSn
              generalize g.prio.getD u 0 = pv at *
              generalize leastK g P.loop kk = lk at *
              clear f0 f1
              go_wp2
              go_quiet (fail)
              go_wp2
              all_goals
                go_roundg (P.loop.length - (kk + 1))
                case measure => have := HGK2.out; omega
                case rel => exact ⟨kk + 1, _, rfl, by go_num, by rw [HSn.out]; congr 1; omega, by omega, rfl⟩
            · obtain rfl : kk = P.loop.length := by omega
              have hnn := HNN.out P.loop.length
              have HLd2 := Lib.hid HLd.out
              generalize leastK g P.loop P.loop.length = lk at *
              go_wp2
              go_ret
              exact ⟨ret_int (by rw [HWE.out, ← HLd2.out]), HBE.out.trans (below_draws _ _ _)⟩

end Go.Proofs.Ytkbiopjinegckaa
