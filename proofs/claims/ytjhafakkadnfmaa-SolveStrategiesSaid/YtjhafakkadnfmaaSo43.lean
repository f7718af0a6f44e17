/- The operations of a drawn statement of the reference's Beaten. -/
import Derived.Test.YtjhafakkadnfmaaSo42
import Derived.Test.YtjhafakkadnfmaaRegSt
namespace Go.Proofs.Ytjhafakkadnfmaa
open Go.RowKit

def findReg (n : Nat) : Code → Option (Array Oper)
  | .region id ops _ => if id = n then some ops else none
  | .loop c => findReg n c
  | .seq a b => match findReg n a with
    | some c => some c
    | none => findReg n b
  | .block _ c => findReg n c
  | .scope c => findReg n c
  | .cond _ a b => match findReg n a with
    | some c => some c
    | none => findReg n b
  | _ => none
noncomputable def ops31 : Array Oper := (Try.f19.body.bind (findReg 31)).getD #[]

def RWA (gb n Gi i j : Nat) (ix : Nat) (v : Value) (_ : World) : Prop :=
  match ix with
  | 0 => v = .slice (some ⟨gb, 0, none⟩) n n
  | 1 => v = .int .i64 (i : Int)
  | 2 => v = .pointer (some ⟨gb, i, none⟩)
  | 3 => v = .slice (some ⟨Gi, 0, none⟩) n n
  | 4 => v = .int .i64 (j : Int)
  | 5 => v = .slice (some ⟨gb, 0, none⟩) n n
  | 6 => v = .int .i64 (i : Int)
  | 7 => v = .pointer (some ⟨gb, i, none⟩)
  | 8 => v = .slice (some ⟨Gi, 0, none⟩) n n
  | 9 => v = .int .i64 (j : Int)
  | 10 => v = .pointer (some ⟨Gi, j, none⟩)
  | 11 => v = .bool true
  | 12 => v = .bool true
  | 13 => v = undef
  | 14 => v = undef
  | 15 => v = undef
  | 16 => v = undef
  | 17 => v = undef
  | 18 => v = undef
  | 19 => v = undef
  | 20 => v = undef
  | 21 => v = undef
  | 22 => v = undef
  | 23 => v = undef
  | 24 => v = undef
  | 25 => v = undef
  | 26 => v = undef
  | 27 => v = undef
  | 28 => v = undef
  | 29 => v = .bool true
  | 30 => v = .pointer (some ⟨Gi, j, none⟩)
  | _ => True
theorem RWA.mono (gb n Gi i j : Nat) (ix : Nat) (v : Value) (W W' : World) (h : RWA gb n Gi i j ix v W) (_ : Below W.heap.size W W') : RWA gb n Gi i j ix v W' := by
  unfold RWA at *
  split at h <;> exact h

def RWB (gb n Gi i j k : Nat) (ix : Nat) (v : Value) (_ : World) : Prop :=
  match ix with
  | 0 => v = .slice (some ⟨gb, 0, none⟩) n n
  | 1 => v = .int .i64 (i : Int)
  | 2 => v = .pointer (some ⟨gb, i, none⟩)
  | 3 => v = .slice (some ⟨Gi, 0, none⟩) n n
  | 4 => v = .int .i64 (j : Int)
  | 5 => v = .slice (some ⟨gb, 0, none⟩) n n
  | 6 => v = .int .i64 (i : Int)
  | 7 => v = .pointer (some ⟨gb, i, none⟩)
  | 8 => v = .slice (some ⟨Gi, 0, none⟩) n n
  | 9 => v = .int .i64 (j : Int)
  | 10 => v = .pointer (some ⟨Gi, j, none⟩)
  | 11 => v = .bool false
  | 12 => v = .bool false
  | 13 => v = .slice (some ⟨gb, 0, none⟩) n n
  | 14 => v = .int .i64 (i : Int)
  | 15 => v = .pointer (some ⟨gb, i, none⟩)
  | 16 => v = .slice (some ⟨Gi, 0, none⟩) n n
  | 17 => v = .int .i64 (k : Int)
  | 18 => v = .pointer (some ⟨Gi, k, none⟩)
  | 19 => v = .bool false
  | 20 => v = .bool false
  | 21 => v = undef
  | 22 => v = undef
  | 23 => v = undef
  | 24 => v = undef
  | 25 => v = undef
  | 26 => v = undef
  | 27 => v = undef
  | 28 => v = .bool false
  | 29 => v = .bool false
  | 30 => v = .pointer (some ⟨Gi, j, none⟩)
  | _ => True
theorem RWB.mono (gb n Gi i j k : Nat) (ix : Nat) (v : Value) (W W' : World) (h : RWB gb n Gi i j k ix v W) (_ : Below W.heap.size W W') : RWB gb n Gi i j k ix v W' := by
  unfold RWB at *
  split at h <;> exact h

def RWC (gb n Gi Gk i j k : Nat) (z : Bool) (ix : Nat) (v : Value) (_ : World) : Prop :=
  match ix with
  | 0 => v = .slice (some ⟨gb, 0, none⟩) n n
  | 1 => v = .int .i64 (i : Int)
  | 2 => v = .pointer (some ⟨gb, i, none⟩)
  | 3 => v = .slice (some ⟨Gi, 0, none⟩) n n
  | 4 => v = .int .i64 (j : Int)
  | 5 => v = .slice (some ⟨gb, 0, none⟩) n n
  | 6 => v = .int .i64 (i : Int)
  | 7 => v = .pointer (some ⟨gb, i, none⟩)
  | 8 => v = .slice (some ⟨Gi, 0, none⟩) n n
  | 9 => v = .int .i64 (j : Int)
  | 10 => v = .pointer (some ⟨Gi, j, none⟩)
  | 11 => v = .bool false
  | 12 => v = .bool false
  | 13 => v = .slice (some ⟨gb, 0, none⟩) n n
  | 14 => v = .int .i64 (i : Int)
  | 15 => v = .pointer (some ⟨gb, i, none⟩)
  | 16 => v = .slice (some ⟨Gi, 0, none⟩) n n
  | 17 => v = .int .i64 (k : Int)
  | 18 => v = .pointer (some ⟨Gi, k, none⟩)
  | 19 => v = .bool true
  | 20 => v = .bool true
  | 21 => v = .slice (some ⟨gb, 0, none⟩) n n
  | 22 => v = .int .i64 (k : Int)
  | 23 => v = .pointer (some ⟨gb, k, none⟩)
  | 24 => v = .slice (some ⟨Gk, 0, none⟩) n n
  | 25 => v = .int .i64 (j : Int)
  | 26 => v = .pointer (some ⟨Gk, j, none⟩)
  | 27 => v = .bool z
  | 28 => v = .bool z
  | 29 => v = .bool z
  | 30 => v = .pointer (some ⟨Gi, j, none⟩)
  | _ => True
theorem RWC.mono (gb n Gi Gk i j k : Nat) (z : Bool) (ix : Nat) (v : Value) (W W' : World) (h : RWC gb n Gi Gk i j k z ix v W) (_ : Below W.heap.size W W') : RWC gb n Gi Gk i j k z ix v W' := by
  unfold RWC at *
  split at h <;> exact h

set_option maxRecDepth 100000 in
set_option maxHeartbeats 4000000 in
theorem r31A_step {Q : Exit → Act → World → Prop} {w0 : World} {gb n Gi i j k : Nat} {t0 t1 t2 t3 t4 t5 t6 t7 t8 t9 t10 t11 t12 t14 t15 t16 t20 t21 t22 t23 t24 t25 t26 t27 t28 t29 t30 t31 t32 t33 t34 t35 t36 t37 t38 t39 t40 t41 t42 t43 t44 t45 t46 t47 t48 t49 t50 t51 t52 t53 t54 t55 t56 t57 t58 t59 t60 t61 t62 t63 t64 t65 t66 t67 t68 t69 t70 t71 t72 t73 t74 t75 t76 t77 t78 t79 t80 t81 t82 t83 t84 t85 t86 t87 t88 t89 t90 t91 t92 t93 t94 t95 t96 t97 t98 t99 t100 t101 t102 t103 t104 t105 t106 t107 t108 t109 t110 t111 t112 t113 t114 t115 t116 t117 t118 t119 t120 t121 t122 t123 t124 t125 t126 t127 t128 t129 t130 t131 t132 t133 t134 t135 t136 t137 t138 t139 t140 t141 t142 t143 t144 t145 t146 t147 t148 t149 t150 t151 t152 t184 t185 t186 t187 t188 t189 t190 t191 t192 t193 t194 t195 t196 t197 t198 t199 t200 t201 t202 t203 t204 t205 t206 t207 t208 t209 t210 : Value} (hi : i < n) (hj : j < n) (hcl : ∀ W, Below w0.heap.size w0 W → W.cell? ⟨gb, i, none⟩ = some (.slice (some ⟨Gi, 0, none⟩) n n) ∧ W.cell? ⟨Gi, j, none⟩ = some (.bool true)) :
    ∀ ix o, ix < 31 → ops31[ix]? = some o → StStep Try.prog Q ops31 (RWA gb n Gi i j) (fun vs => { tmps := (t0 :: t1 :: t2 :: t3 :: t4 :: t5 :: t6 :: t7 :: t8 :: t9 :: t10 :: t11 :: t12 :: .slice (some ⟨gb, 0, none⟩) n n :: t14 :: t15 :: t16 :: .int .i64 (k : Int) :: .int .i64 (i : Int) :: .int .i64 (j : Int) :: t20 :: t21 :: t22 :: t23 :: t24 :: t25 :: t26 :: t27 :: t28 :: t29 :: t30 :: t31 :: t32 :: t33 :: t34 :: t35 :: t36 :: t37 :: t38 :: t39 :: t40 :: t41 :: t42 :: t43 :: t44 :: t45 :: t46 :: t47 :: t48 :: t49 :: t50 :: t51 :: t52 :: t53 :: t54 :: t55 :: t56 :: t57 :: t58 :: t59 :: t60 :: t61 :: t62 :: t63 :: t64 :: t65 :: t66 :: t67 :: t68 :: t69 :: t70 :: t71 :: t72 :: t73 :: t74 :: t75 :: t76 :: t77 :: t78 :: t79 :: t80 :: t81 :: t82 :: t83 :: t84 :: t85 :: t86 :: t87 :: t88 :: t89 :: t90 :: t91 :: t92 :: t93 :: t94 :: t95 :: t96 :: t97 :: t98 :: t99 :: t100 :: t101 :: t102 :: t103 :: t104 :: t105 :: t106 :: t107 :: t108 :: t109 :: t110 :: t111 :: t112 :: t113 :: t114 :: t115 :: t116 :: t117 :: t118 :: t119 :: t120 :: t121 :: t122 :: t123 :: t124 :: t125 :: t126 :: t127 :: t128 :: t129 :: t130 :: t131 :: t132 :: t133 :: t134 :: t135 :: t136 :: t137 :: t138 :: t139 :: t140 :: t141 :: t142 :: t143 :: t144 :: t145 :: t146 :: t147 :: t148 :: t149 :: t150 :: t151 :: t152 :: vs 0 :: vs 1 :: vs 2 :: vs 3 :: vs 4 :: vs 5 :: vs 6 :: vs 7 :: vs 8 :: vs 9 :: vs 10 :: vs 11 :: vs 12 :: vs 13 :: vs 14 :: vs 15 :: vs 16 :: vs 17 :: vs 18 :: vs 19 :: vs 20 :: vs 21 :: vs 22 :: vs 23 :: vs 24 :: vs 25 :: vs 26 :: vs 27 :: vs 28 :: vs 29 :: vs 30 :: t184 :: t185 :: t186 :: t187 :: t188 :: t189 :: t190 :: t191 :: t192 :: t193 :: t194 :: t195 :: t196 :: t197 :: t198 :: t199 :: t200 :: t201 :: t202 :: t203 :: t204 :: t205 :: t206 :: t207 :: t208 :: t209 :: t210 :: []).toArray, defers := [] }) w0 ix o := by
  have HCL := Lib.hid hcl
  clear hcl
  obtain ⟨ops, hops⟩ : ∃ ops, ops = ops31 := ⟨_, rfl⟩
  rw [← hops]
  conv at hops => rhs; whnf
  subst hops
  intro ix o hlt ho
  match ix, hlt, ho with
  | 0, hlt, ho =>
    obtain rfl := Option.some.inj ho
    intro vs W K hB hD hK
    have HK := Lib.hid hK
    clear hK hD ho hlt
    dsimp only
    go_simp
    have h := HK.out _ _ (Below.refl _ _) rfl
    simp only [upd, Nat.reduceEqDiff, reduceIte] at h
    exact h
  | 1, hlt, ho =>
    obtain rfl := Option.some.inj ho
    intro vs W K hB hD hK
    have HK := Lib.hid hK
    clear hK hD ho hlt
    dsimp only
    go_simp
    have h := HK.out _ _ (Below.refl _ _) rfl
    simp only [upd, Nat.reduceEqDiff, reduceIte] at h
    exact h
  | 2, hlt, ho =>
    obtain rfl := Option.some.inj ho
    intro vs W K hB hD hK
    have HK := Lib.hid hK
    have e0 : vs 0 = .slice (some ⟨gb, 0, none⟩) n n := dep_of hD 0 (by rfl)
    have e1 : vs 1 = .int .i64 (i : Int) := dep_of hD 1 (by rfl)
    clear hK hD ho hlt
    dsimp only
    go_simp
    have h := HK.out _ _ (Below.refl _ _) rfl
    simp only [upd, Nat.reduceEqDiff, reduceIte, e0, e1] at h
    exact h
  | 3, hlt, ho =>
    obtain rfl := Option.some.inj ho
    intro vs W K hB hD hK
    have HK := Lib.hid hK
    have e2 : vs 2 = .pointer (some ⟨gb, i, none⟩) := dep_of hD 2 (by rfl)
    have c1 := (HCL.out W hB).1
    clear hK hD ho hlt
    dsimp only
    go_simp
    have h := HK.out _ _ (Below.refl _ _) rfl
    simp only [upd, Nat.reduceEqDiff, reduceIte, e2] at h
    exact h
  | 4, hlt, ho =>
    obtain rfl := Option.some.inj ho
    intro vs W K hB hD hK
    have HK := Lib.hid hK
    clear hK hD ho hlt
    dsimp only
    go_simp
    have h := HK.out _ _ (Below.refl _ _) rfl
    simp only [upd, Nat.reduceEqDiff, reduceIte] at h
    exact h
  | 5, hlt, ho =>
    obtain rfl := Option.some.inj ho
    intro vs W K hB hD hK
    have HK := Lib.hid hK
    clear hK hD ho hlt
    dsimp only
    go_simp
    have h := HK.out _ _ (Below.refl _ _) rfl
    simp only [upd, Nat.reduceEqDiff, reduceIte] at h
    exact h
  | 6, hlt, ho =>
    obtain rfl := Option.some.inj ho
    intro vs W K hB hD hK
    have HK := Lib.hid hK
    clear hK hD ho hlt
    dsimp only
    go_simp
    have h := HK.out _ _ (Below.refl _ _) rfl
    simp only [upd, Nat.reduceEqDiff, reduceIte] at h
    exact h
  | 7, hlt, ho =>
    obtain rfl := Option.some.inj ho
    intro vs W K hB hD hK
    have HK := Lib.hid hK
    have e5 : vs 5 = .slice (some ⟨gb, 0, none⟩) n n := dep_of hD 5 (by rfl)
    have e6 : vs 6 = .int .i64 (i : Int) := dep_of hD 6 (by rfl)
    clear hK hD ho hlt
    dsimp only
    go_simp
    have h := HK.out _ _ (Below.refl _ _) rfl
    simp only [upd, Nat.reduceEqDiff, reduceIte, e5, e6] at h
    exact h
  | 8, hlt, ho =>
    obtain rfl := Option.some.inj ho
    intro vs W K hB hD hK
    have HK := Lib.hid hK
    have e7 : vs 7 = .pointer (some ⟨gb, i, none⟩) := dep_of hD 7 (by rfl)
    have c1 := (HCL.out W hB).1
    clear hK hD ho hlt
    dsimp only
    go_simp
    have h := HK.out _ _ (Below.refl _ _) rfl
    simp only [upd, Nat.reduceEqDiff, reduceIte, e7] at h
    exact h
  | 9, hlt, ho =>
    obtain rfl := Option.some.inj ho
    intro vs W K hB hD hK
    have HK := Lib.hid hK
    clear hK hD ho hlt
    dsimp only
    go_simp
    have h := HK.out _ _ (Below.refl _ _) rfl
    simp only [upd, Nat.reduceEqDiff, reduceIte] at h
    exact h
  | 10, hlt, ho =>
    obtain rfl := Option.some.inj ho
    intro vs W K hB hD hK
    have HK := Lib.hid hK
    have e8 : vs 8 = .slice (some ⟨Gi, 0, none⟩) n n := dep_of hD 8 (by rfl)
    have e9 : vs 9 = .int .i64 (j : Int) := dep_of hD 9 (by rfl)
    clear hK hD ho hlt
    dsimp only
    go_simp
    have h := HK.out _ _ (Below.refl _ _) rfl
    simp only [upd, Nat.reduceEqDiff, reduceIte, e8, e9] at h
    exact h
  | 11, hlt, ho =>
    obtain rfl := Option.some.inj ho
    intro vs W K hB hD hK
    have HK := Lib.hid hK
    have e10 : vs 10 = .pointer (some ⟨Gi, j, none⟩) := dep_of hD 10 (by rfl)
    have c1 := (HCL.out W hB).2
    clear hK hD ho hlt
    dsimp only
    go_simp
    have h := HK.out _ _ (Below.refl _ _) rfl
    simp only [upd, Nat.reduceEqDiff, reduceIte, e10] at h
    exact h
  | 12, hlt, ho =>
    obtain rfl := Option.some.inj ho
    intro vs W K hB hD hK
    have HK := Lib.hid hK
    have e11 : vs 11 = .bool true := dep_of hD 11 (by rfl)
    clear hK hD ho hlt
    dsimp only
    go_simp
    have h := HK.out _ _ (Below.refl _ _) rfl
    simp only [upd, Nat.reduceEqDiff, reduceIte, e11] at h
    exact h
  | 13, hlt, ho =>
    obtain rfl := Option.some.inj ho
    intro vs W K hB hD hK
    have HK := Lib.hid hK
    have e12 : vs 12 = .bool true := dep_of hD 12 (by rfl)
    clear hK hD ho hlt
    dsimp only
    go_simp
    have h := HK.out _ _ (Below.refl _ _) rfl
    simp only [upd, Nat.reduceEqDiff, reduceIte, e12] at h
    exact h
  | 14, hlt, ho =>
    obtain rfl := Option.some.inj ho
    intro vs W K hB hD hK
    have HK := Lib.hid hK
    have e12 : vs 12 = .bool true := dep_of hD 12 (by rfl)
    clear hK hD ho hlt
    dsimp only
    go_simp
    have h := HK.out _ _ (Below.refl _ _) rfl
    simp only [upd, Nat.reduceEqDiff, reduceIte, e12] at h
    exact h
  | 15, hlt, ho =>
    obtain rfl := Option.some.inj ho
    intro vs W K hB hD hK
    have HK := Lib.hid hK
    have e12 : vs 12 = .bool true := dep_of hD 12 (by rfl)
    clear hK hD ho hlt
    dsimp only
    go_simp
    have h := HK.out _ _ (Below.refl _ _) rfl
    simp only [upd, Nat.reduceEqDiff, reduceIte, e12] at h
    exact h
  | 16, hlt, ho =>
    obtain rfl := Option.some.inj ho
    intro vs W K hB hD hK
    have HK := Lib.hid hK
    have e12 : vs 12 = .bool true := dep_of hD 12 (by rfl)
    clear hK hD ho hlt
    dsimp only
    go_simp
    have h := HK.out _ _ (Below.refl _ _) rfl
    simp only [upd, Nat.reduceEqDiff, reduceIte, e12] at h
    exact h
  | 17, hlt, ho =>
    obtain rfl := Option.some.inj ho
    intro vs W K hB hD hK
    have HK := Lib.hid hK
    have e12 : vs 12 = .bool true := dep_of hD 12 (by rfl)
    clear hK hD ho hlt
    dsimp only
    go_simp
    have h := HK.out _ _ (Below.refl _ _) rfl
    simp only [upd, Nat.reduceEqDiff, reduceIte, e12] at h
    exact h
  | 18, hlt, ho =>
    obtain rfl := Option.some.inj ho
    intro vs W K hB hD hK
    have HK := Lib.hid hK
    have e12 : vs 12 = .bool true := dep_of hD 12 (by rfl)
    clear hK hD ho hlt
    dsimp only
    go_simp
    have h := HK.out _ _ (Below.refl _ _) rfl
    simp only [upd, Nat.reduceEqDiff, reduceIte, e12] at h
    exact h
  | 19, hlt, ho =>
    obtain rfl := Option.some.inj ho
    intro vs W K hB hD hK
    have HK := Lib.hid hK
    have e12 : vs 12 = .bool true := dep_of hD 12 (by rfl)
    clear hK hD ho hlt
    dsimp only
    go_simp
    have h := HK.out _ _ (Below.refl _ _) rfl
    simp only [upd, Nat.reduceEqDiff, reduceIte, e12] at h
    exact h
  | 20, hlt, ho =>
    obtain rfl := Option.some.inj ho
    intro vs W K hB hD hK
    have HK := Lib.hid hK
    have e12 : vs 12 = .bool true := dep_of hD 12 (by rfl)
    clear hK hD ho hlt
    dsimp only
    go_simp
    have h := HK.out _ _ (Below.refl _ _) rfl
    simp only [upd, Nat.reduceEqDiff, reduceIte, e12] at h
    exact h
  | 21, hlt, ho =>
    obtain rfl := Option.some.inj ho
    intro vs W K hB hD hK
    have HK := Lib.hid hK
    have e20 : vs 20 = undef := dep_of hD 20 (by rfl)
    clear hK hD ho hlt
    dsimp only
    go_simp
    have h := HK.out _ _ (Below.refl _ _) rfl
    simp only [upd, Nat.reduceEqDiff, reduceIte, e20] at h
    exact h
  | 22, hlt, ho =>
    obtain rfl := Option.some.inj ho
    intro vs W K hB hD hK
    have HK := Lib.hid hK
    have e20 : vs 20 = undef := dep_of hD 20 (by rfl)
    clear hK hD ho hlt
    dsimp only
    go_simp
    have h := HK.out _ _ (Below.refl _ _) rfl
    simp only [upd, Nat.reduceEqDiff, reduceIte, e20] at h
    exact h
  | 23, hlt, ho =>
    obtain rfl := Option.some.inj ho
    intro vs W K hB hD hK
    have HK := Lib.hid hK
    have e20 : vs 20 = undef := dep_of hD 20 (by rfl)
    clear hK hD ho hlt
    dsimp only
    go_simp
    have h := HK.out _ _ (Below.refl _ _) rfl
    simp only [upd, Nat.reduceEqDiff, reduceIte, e20] at h
    exact h
  | 24, hlt, ho =>
    obtain rfl := Option.some.inj ho
    intro vs W K hB hD hK
    have HK := Lib.hid hK
    have e20 : vs 20 = undef := dep_of hD 20 (by rfl)
    clear hK hD ho hlt
    dsimp only
    go_simp
    have h := HK.out _ _ (Below.refl _ _) rfl
    simp only [upd, Nat.reduceEqDiff, reduceIte, e20] at h
    exact h
  | 25, hlt, ho =>
    obtain rfl := Option.some.inj ho
    intro vs W K hB hD hK
    have HK := Lib.hid hK
    have e20 : vs 20 = undef := dep_of hD 20 (by rfl)
    clear hK hD ho hlt
    dsimp only
    go_simp
    have h := HK.out _ _ (Below.refl _ _) rfl
    simp only [upd, Nat.reduceEqDiff, reduceIte, e20] at h
    exact h
  | 26, hlt, ho =>
    obtain rfl := Option.some.inj ho
    intro vs W K hB hD hK
    have HK := Lib.hid hK
    have e20 : vs 20 = undef := dep_of hD 20 (by rfl)
    clear hK hD ho hlt
    dsimp only
    go_simp
    have h := HK.out _ _ (Below.refl _ _) rfl
    simp only [upd, Nat.reduceEqDiff, reduceIte, e20] at h
    exact h
  | 27, hlt, ho =>
    obtain rfl := Option.some.inj ho
    intro vs W K hB hD hK
    have HK := Lib.hid hK
    have e20 : vs 20 = undef := dep_of hD 20 (by rfl)
    clear hK hD ho hlt
    dsimp only
    go_simp
    have h := HK.out _ _ (Below.refl _ _) rfl
    simp only [upd, Nat.reduceEqDiff, reduceIte, e20] at h
    exact h
  | 28, hlt, ho =>
    obtain rfl := Option.some.inj ho
    intro vs W K hB hD hK
    have HK := Lib.hid hK
    have e12 : vs 12 = .bool true := dep_of hD 12 (by rfl)
    clear hK hD ho hlt
    dsimp only
    go_simp
    have h := HK.out _ _ (Below.refl _ _) rfl
    simp only [upd, Nat.reduceEqDiff, reduceIte, e12] at h
    exact h
  | 29, hlt, ho =>
    obtain rfl := Option.some.inj ho
    intro vs W K hB hD hK
    have HK := Lib.hid hK
    have e12 : vs 12 = .bool true := dep_of hD 12 (by rfl)
    have e28 : vs 28 = undef := dep_of hD 28 (by rfl)
    clear hK hD ho hlt
    dsimp only
    go_simp
    have h := HK.out _ _ (Below.refl _ _) rfl
    simp only [upd, Nat.reduceEqDiff, reduceIte, e12, e28] at h
    exact h
  | 30, hlt, ho =>
    obtain rfl := Option.some.inj ho
    intro vs W K hB hD hK
    have HK := Lib.hid hK
    have e3 : vs 3 = .slice (some ⟨Gi, 0, none⟩) n n := dep_of hD 3 (by rfl)
    have e4 : vs 4 = .int .i64 (j : Int) := dep_of hD 4 (by rfl)
    clear hK hD ho hlt
    dsimp only
    go_simp
    have h := HK.out _ _ (Below.refl _ _) rfl
    simp only [upd, Nat.reduceEqDiff, reduceIte, e3, e4] at h
    exact h
  | n + 31, hlt, ho => omega

set_option maxRecDepth 100000 in
set_option maxHeartbeats 4000000 in
theorem r31B_step {Q : Exit → Act → World → Prop} {w0 : World} {gb n Gi i j k : Nat} {t0 t1 t2 t3 t4 t5 t6 t7 t8 t9 t10 t11 t12 t14 t15 t16 t20 t21 t22 t23 t24 t25 t26 t27 t28 t29 t30 t31 t32 t33 t34 t35 t36 t37 t38 t39 t40 t41 t42 t43 t44 t45 t46 t47 t48 t49 t50 t51 t52 t53 t54 t55 t56 t57 t58 t59 t60 t61 t62 t63 t64 t65 t66 t67 t68 t69 t70 t71 t72 t73 t74 t75 t76 t77 t78 t79 t80 t81 t82 t83 t84 t85 t86 t87 t88 t89 t90 t91 t92 t93 t94 t95 t96 t97 t98 t99 t100 t101 t102 t103 t104 t105 t106 t107 t108 t109 t110 t111 t112 t113 t114 t115 t116 t117 t118 t119 t120 t121 t122 t123 t124 t125 t126 t127 t128 t129 t130 t131 t132 t133 t134 t135 t136 t137 t138 t139 t140 t141 t142 t143 t144 t145 t146 t147 t148 t149 t150 t151 t152 t184 t185 t186 t187 t188 t189 t190 t191 t192 t193 t194 t195 t196 t197 t198 t199 t200 t201 t202 t203 t204 t205 t206 t207 t208 t209 t210 : Value} (hi : i < n) (hj : j < n) (hk : k < n) (hcl : ∀ W, Below w0.heap.size w0 W → W.cell? ⟨gb, i, none⟩ = some (.slice (some ⟨Gi, 0, none⟩) n n) ∧ W.cell? ⟨Gi, j, none⟩ = some (.bool false) ∧ W.cell? ⟨Gi, k, none⟩ = some (.bool false)) :
    ∀ ix o, ix < 31 → ops31[ix]? = some o → StStep Try.prog Q ops31 (RWB gb n Gi i j k) (fun vs => { tmps := (t0 :: t1 :: t2 :: t3 :: t4 :: t5 :: t6 :: t7 :: t8 :: t9 :: t10 :: t11 :: t12 :: .slice (some ⟨gb, 0, none⟩) n n :: t14 :: t15 :: t16 :: .int .i64 (k : Int) :: .int .i64 (i : Int) :: .int .i64 (j : Int) :: t20 :: t21 :: t22 :: t23 :: t24 :: t25 :: t26 :: t27 :: t28 :: t29 :: t30 :: t31 :: t32 :: t33 :: t34 :: t35 :: t36 :: t37 :: t38 :: t39 :: t40 :: t41 :: t42 :: t43 :: t44 :: t45 :: t46 :: t47 :: t48 :: t49 :: t50 :: t51 :: t52 :: t53 :: t54 :: t55 :: t56 :: t57 :: t58 :: t59 :: t60 :: t61 :: t62 :: t63 :: t64 :: t65 :: t66 :: t67 :: t68 :: t69 :: t70 :: t71 :: t72 :: t73 :: t74 :: t75 :: t76 :: t77 :: t78 :: t79 :: t80 :: t81 :: t82 :: t83 :: t84 :: t85 :: t86 :: t87 :: t88 :: t89 :: t90 :: t91 :: t92 :: t93 :: t94 :: t95 :: t96 :: t97 :: t98 :: t99 :: t100 :: t101 :: t102 :: t103 :: t104 :: t105 :: t106 :: t107 :: t108 :: t109 :: t110 :: t111 :: t112 :: t113 :: t114 :: t115 :: t116 :: t117 :: t118 :: t119 :: t120 :: t121 :: t122 :: t123 :: t124 :: t125 :: t126 :: t127 :: t128 :: t129 :: t130 :: t131 :: t132 :: t133 :: t134 :: t135 :: t136 :: t137 :: t138 :: t139 :: t140 :: t141 :: t142 :: t143 :: t144 :: t145 :: t146 :: t147 :: t148 :: t149 :: t150 :: t151 :: t152 :: vs 0 :: vs 1 :: vs 2 :: vs 3 :: vs 4 :: vs 5 :: vs 6 :: vs 7 :: vs 8 :: vs 9 :: vs 10 :: vs 11 :: vs 12 :: vs 13 :: vs 14 :: vs 15 :: vs 16 :: vs 17 :: vs 18 :: vs 19 :: vs 20 :: vs 21 :: vs 22 :: vs 23 :: vs 24 :: vs 25 :: vs 26 :: vs 27 :: vs 28 :: vs 29 :: vs 30 :: t184 :: t185 :: t186 :: t187 :: t188 :: t189 :: t190 :: t191 :: t192 :: t193 :: t194 :: t195 :: t196 :: t197 :: t198 :: t199 :: t200 :: t201 :: t202 :: t203 :: t204 :: t205 :: t206 :: t207 :: t208 :: t209 :: t210 :: []).toArray, defers := [] }) w0 ix o := by
  have HCL := Lib.hid hcl
  clear hcl
  obtain ⟨ops, hops⟩ : ∃ ops, ops = ops31 := ⟨_, rfl⟩
  rw [← hops]
  conv at hops => rhs; whnf
  subst hops
  intro ix o hlt ho
  match ix, hlt, ho with
  | 0, hlt, ho =>
    obtain rfl := Option.some.inj ho
    intro vs W K hB hD hK
    have HK := Lib.hid hK
    clear hK hD ho hlt
    dsimp only
    go_simp
    have h := HK.out _ _ (Below.refl _ _) rfl
    simp only [upd, Nat.reduceEqDiff, reduceIte] at h
    exact h
  | 1, hlt, ho =>
    obtain rfl := Option.some.inj ho
    intro vs W K hB hD hK
    have HK := Lib.hid hK
    clear hK hD ho hlt
    dsimp only
    go_simp
    have h := HK.out _ _ (Below.refl _ _) rfl
    simp only [upd, Nat.reduceEqDiff, reduceIte] at h
    exact h
  | 2, hlt, ho =>
    obtain rfl := Option.some.inj ho
    intro vs W K hB hD hK
    have HK := Lib.hid hK
    have e0 : vs 0 = .slice (some ⟨gb, 0, none⟩) n n := dep_of hD 0 (by rfl)
    have e1 : vs 1 = .int .i64 (i : Int) := dep_of hD 1 (by rfl)
    clear hK hD ho hlt
    dsimp only
    go_simp
    have h := HK.out _ _ (Below.refl _ _) rfl
    simp only [upd, Nat.reduceEqDiff, reduceIte, e0, e1] at h
    exact h
  | 3, hlt, ho =>
    obtain rfl := Option.some.inj ho
    intro vs W K hB hD hK
    have HK := Lib.hid hK
    have e2 : vs 2 = .pointer (some ⟨gb, i, none⟩) := dep_of hD 2 (by rfl)
    have c1 := (HCL.out W hB).1
    clear hK hD ho hlt
    dsimp only
    go_simp
    have h := HK.out _ _ (Below.refl _ _) rfl
    simp only [upd, Nat.reduceEqDiff, reduceIte, e2] at h
    exact h
  | 4, hlt, ho =>
    obtain rfl := Option.some.inj ho
    intro vs W K hB hD hK
    have HK := Lib.hid hK
    clear hK hD ho hlt
    dsimp only
    go_simp
    have h := HK.out _ _ (Below.refl _ _) rfl
    simp only [upd, Nat.reduceEqDiff, reduceIte] at h
    exact h
  | 5, hlt, ho =>
    obtain rfl := Option.some.inj ho
    intro vs W K hB hD hK
    have HK := Lib.hid hK
    clear hK hD ho hlt
    dsimp only
    go_simp
    have h := HK.out _ _ (Below.refl _ _) rfl
    simp only [upd, Nat.reduceEqDiff, reduceIte] at h
    exact h
  | 6, hlt, ho =>
    obtain rfl := Option.some.inj ho
    intro vs W K hB hD hK
    have HK := Lib.hid hK
    clear hK hD ho hlt
    dsimp only
    go_simp
    have h := HK.out _ _ (Below.refl _ _) rfl
    simp only [upd, Nat.reduceEqDiff, reduceIte] at h
    exact h
  | 7, hlt, ho =>
    obtain rfl := Option.some.inj ho
    intro vs W K hB hD hK
    have HK := Lib.hid hK
    have e5 : vs 5 = .slice (some ⟨gb, 0, none⟩) n n := dep_of hD 5 (by rfl)
    have e6 : vs 6 = .int .i64 (i : Int) := dep_of hD 6 (by rfl)
    clear hK hD ho hlt
    dsimp only
    go_simp
    have h := HK.out _ _ (Below.refl _ _) rfl
    simp only [upd, Nat.reduceEqDiff, reduceIte, e5, e6] at h
    exact h
  | 8, hlt, ho =>
    obtain rfl := Option.some.inj ho
    intro vs W K hB hD hK
    have HK := Lib.hid hK
    have e7 : vs 7 = .pointer (some ⟨gb, i, none⟩) := dep_of hD 7 (by rfl)
    have c1 := (HCL.out W hB).1
    clear hK hD ho hlt
    dsimp only
    go_simp
    have h := HK.out _ _ (Below.refl _ _) rfl
    simp only [upd, Nat.reduceEqDiff, reduceIte, e7] at h
    exact h
  | 9, hlt, ho =>
    obtain rfl := Option.some.inj ho
    intro vs W K hB hD hK
    have HK := Lib.hid hK
    clear hK hD ho hlt
    dsimp only
    go_simp
    have h := HK.out _ _ (Below.refl _ _) rfl
    simp only [upd, Nat.reduceEqDiff, reduceIte] at h
    exact h
  | 10, hlt, ho =>
    obtain rfl := Option.some.inj ho
    intro vs W K hB hD hK
    have HK := Lib.hid hK
    have e8 : vs 8 = .slice (some ⟨Gi, 0, none⟩) n n := dep_of hD 8 (by rfl)
    have e9 : vs 9 = .int .i64 (j : Int) := dep_of hD 9 (by rfl)
    clear hK hD ho hlt
    dsimp only
    go_simp
    have h := HK.out _ _ (Below.refl _ _) rfl
    simp only [upd, Nat.reduceEqDiff, reduceIte, e8, e9] at h
    exact h
  | 11, hlt, ho =>
    obtain rfl := Option.some.inj ho
    intro vs W K hB hD hK
    have HK := Lib.hid hK
    have e10 : vs 10 = .pointer (some ⟨Gi, j, none⟩) := dep_of hD 10 (by rfl)
    have c1 := (HCL.out W hB).2.1
    clear hK hD ho hlt
    dsimp only
    go_simp
    have h := HK.out _ _ (Below.refl _ _) rfl
    simp only [upd, Nat.reduceEqDiff, reduceIte, e10] at h
    exact h
  | 12, hlt, ho =>
    obtain rfl := Option.some.inj ho
    intro vs W K hB hD hK
    have HK := Lib.hid hK
    have e11 : vs 11 = .bool false := dep_of hD 11 (by rfl)
    clear hK hD ho hlt
    dsimp only
    go_simp
    have h := HK.out _ _ (Below.refl _ _) rfl
    simp only [upd, Nat.reduceEqDiff, reduceIte, e11] at h
    exact h
  | 13, hlt, ho =>
    obtain rfl := Option.some.inj ho
    intro vs W K hB hD hK
    have HK := Lib.hid hK
    have e12 : vs 12 = .bool false := dep_of hD 12 (by rfl)
    clear hK hD ho hlt
    dsimp only
    go_simp
    have h := HK.out _ _ (Below.refl _ _) rfl
    simp only [upd, Nat.reduceEqDiff, reduceIte, e12] at h
    exact h
  | 14, hlt, ho =>
    obtain rfl := Option.some.inj ho
    intro vs W K hB hD hK
    have HK := Lib.hid hK
    have e12 : vs 12 = .bool false := dep_of hD 12 (by rfl)
    clear hK hD ho hlt
    dsimp only
    go_simp
    have h := HK.out _ _ (Below.refl _ _) rfl
    simp only [upd, Nat.reduceEqDiff, reduceIte, e12] at h
    exact h
  | 15, hlt, ho =>
    obtain rfl := Option.some.inj ho
    intro vs W K hB hD hK
    have HK := Lib.hid hK
    have e12 : vs 12 = .bool false := dep_of hD 12 (by rfl)
    have e13 : vs 13 = .slice (some ⟨gb, 0, none⟩) n n := dep_of hD 13 (by rfl)
    have e14 : vs 14 = .int .i64 (i : Int) := dep_of hD 14 (by rfl)
    clear hK hD ho hlt
    dsimp only
    go_simp
    have h := HK.out _ _ (Below.refl _ _) rfl
    simp only [upd, Nat.reduceEqDiff, reduceIte, e12, e13, e14] at h
    exact h
  | 16, hlt, ho =>
    obtain rfl := Option.some.inj ho
    intro vs W K hB hD hK
    have HK := Lib.hid hK
    have e12 : vs 12 = .bool false := dep_of hD 12 (by rfl)
    have e15 : vs 15 = .pointer (some ⟨gb, i, none⟩) := dep_of hD 15 (by rfl)
    have c1 := (HCL.out W hB).1
    clear hK hD ho hlt
    dsimp only
    go_simp
    have h := HK.out _ _ (Below.refl _ _) rfl
    simp only [upd, Nat.reduceEqDiff, reduceIte, e12, e15] at h
    exact h
  | 17, hlt, ho =>
    obtain rfl := Option.some.inj ho
    intro vs W K hB hD hK
    have HK := Lib.hid hK
    have e12 : vs 12 = .bool false := dep_of hD 12 (by rfl)
    clear hK hD ho hlt
    dsimp only
    go_simp
    have h := HK.out _ _ (Below.refl _ _) rfl
    simp only [upd, Nat.reduceEqDiff, reduceIte, e12] at h
    exact h
  | 18, hlt, ho =>
    obtain rfl := Option.some.inj ho
    intro vs W K hB hD hK
    have HK := Lib.hid hK
    have e12 : vs 12 = .bool false := dep_of hD 12 (by rfl)
    have e16 : vs 16 = .slice (some ⟨Gi, 0, none⟩) n n := dep_of hD 16 (by rfl)
    have e17 : vs 17 = .int .i64 (k : Int) := dep_of hD 17 (by rfl)
    clear hK hD ho hlt
    dsimp only
    go_simp
    have h := HK.out _ _ (Below.refl _ _) rfl
    simp only [upd, Nat.reduceEqDiff, reduceIte, e12, e16, e17] at h
    exact h
  | 19, hlt, ho =>
    obtain rfl := Option.some.inj ho
    intro vs W K hB hD hK
    have HK := Lib.hid hK
    have e12 : vs 12 = .bool false := dep_of hD 12 (by rfl)
    have e18 : vs 18 = .pointer (some ⟨Gi, k, none⟩) := dep_of hD 18 (by rfl)
    have c1 := (HCL.out W hB).2.2
    clear hK hD ho hlt
    dsimp only
    go_simp
    have h := HK.out _ _ (Below.refl _ _) rfl
    simp only [upd, Nat.reduceEqDiff, reduceIte, e12, e18] at h
    exact h
  | 20, hlt, ho =>
    obtain rfl := Option.some.inj ho
    intro vs W K hB hD hK
    have HK := Lib.hid hK
    have e12 : vs 12 = .bool false := dep_of hD 12 (by rfl)
    have e19 : vs 19 = .bool false := dep_of hD 19 (by rfl)
    clear hK hD ho hlt
    dsimp only
    go_simp
    have h := HK.out _ _ (Below.refl _ _) rfl
    simp only [upd, Nat.reduceEqDiff, reduceIte, e12, e19] at h
    exact h
  | 21, hlt, ho =>
    obtain rfl := Option.some.inj ho
    intro vs W K hB hD hK
    have HK := Lib.hid hK
    have e20 : vs 20 = .bool false := dep_of hD 20 (by rfl)
    clear hK hD ho hlt
    dsimp only
    go_simp
    have h := HK.out _ _ (Below.refl _ _) rfl
    simp only [upd, Nat.reduceEqDiff, reduceIte, e20] at h
    exact h
  | 22, hlt, ho =>
    obtain rfl := Option.some.inj ho
    intro vs W K hB hD hK
    have HK := Lib.hid hK
    have e20 : vs 20 = .bool false := dep_of hD 20 (by rfl)
    clear hK hD ho hlt
    dsimp only
    go_simp
    have h := HK.out _ _ (Below.refl _ _) rfl
    simp only [upd, Nat.reduceEqDiff, reduceIte, e20] at h
    exact h
  | 23, hlt, ho =>
    obtain rfl := Option.some.inj ho
    intro vs W K hB hD hK
    have HK := Lib.hid hK
    have e20 : vs 20 = .bool false := dep_of hD 20 (by rfl)
    clear hK hD ho hlt
    dsimp only
    go_simp
    have h := HK.out _ _ (Below.refl _ _) rfl
    simp only [upd, Nat.reduceEqDiff, reduceIte, e20] at h
    exact h
  | 24, hlt, ho =>
    obtain rfl := Option.some.inj ho
    intro vs W K hB hD hK
    have HK := Lib.hid hK
    have e20 : vs 20 = .bool false := dep_of hD 20 (by rfl)
    clear hK hD ho hlt
    dsimp only
    go_simp
    have h := HK.out _ _ (Below.refl _ _) rfl
    simp only [upd, Nat.reduceEqDiff, reduceIte, e20] at h
    exact h
  | 25, hlt, ho =>
    obtain rfl := Option.some.inj ho
    intro vs W K hB hD hK
    have HK := Lib.hid hK
    have e20 : vs 20 = .bool false := dep_of hD 20 (by rfl)
    clear hK hD ho hlt
    dsimp only
    go_simp
    have h := HK.out _ _ (Below.refl _ _) rfl
    simp only [upd, Nat.reduceEqDiff, reduceIte, e20] at h
    exact h
  | 26, hlt, ho =>
    obtain rfl := Option.some.inj ho
    intro vs W K hB hD hK
    have HK := Lib.hid hK
    have e20 : vs 20 = .bool false := dep_of hD 20 (by rfl)
    clear hK hD ho hlt
    dsimp only
    go_simp
    have h := HK.out _ _ (Below.refl _ _) rfl
    simp only [upd, Nat.reduceEqDiff, reduceIte, e20] at h
    exact h
  | 27, hlt, ho =>
    obtain rfl := Option.some.inj ho
    intro vs W K hB hD hK
    have HK := Lib.hid hK
    have e20 : vs 20 = .bool false := dep_of hD 20 (by rfl)
    clear hK hD ho hlt
    dsimp only
    go_simp
    have h := HK.out _ _ (Below.refl _ _) rfl
    simp only [upd, Nat.reduceEqDiff, reduceIte, e20] at h
    exact h
  | 28, hlt, ho =>
    obtain rfl := Option.some.inj ho
    intro vs W K hB hD hK
    have HK := Lib.hid hK
    have e12 : vs 12 = .bool false := dep_of hD 12 (by rfl)
    have e20 : vs 20 = .bool false := dep_of hD 20 (by rfl)
    have e27 : vs 27 = undef := dep_of hD 27 (by rfl)
    clear hK hD ho hlt
    dsimp only
    go_simp
    have h := HK.out _ _ (Below.refl _ _) rfl
    simp only [upd, Nat.reduceEqDiff, reduceIte, e12, e20, e27] at h
    exact h
  | 29, hlt, ho =>
    obtain rfl := Option.some.inj ho
    intro vs W K hB hD hK
    have HK := Lib.hid hK
    have e12 : vs 12 = .bool false := dep_of hD 12 (by rfl)
    have e28 : vs 28 = .bool false := dep_of hD 28 (by rfl)
    clear hK hD ho hlt
    dsimp only
    go_simp
    have h := HK.out _ _ (Below.refl _ _) rfl
    simp only [upd, Nat.reduceEqDiff, reduceIte, e12, e28] at h
    exact h
  | 30, hlt, ho =>
    obtain rfl := Option.some.inj ho
    intro vs W K hB hD hK
    have HK := Lib.hid hK
    have e3 : vs 3 = .slice (some ⟨Gi, 0, none⟩) n n := dep_of hD 3 (by rfl)
    have e4 : vs 4 = .int .i64 (j : Int) := dep_of hD 4 (by rfl)
    clear hK hD ho hlt
    dsimp only
    go_simp
    have h := HK.out _ _ (Below.refl _ _) rfl
    simp only [upd, Nat.reduceEqDiff, reduceIte, e3, e4] at h
    exact h
  | n + 31, hlt, ho => omega

set_option maxRecDepth 100000 in
set_option maxHeartbeats 4000000 in
theorem r31C_step {Q : Exit → Act → World → Prop} {w0 : World} {gb n Gi Gk i j k : Nat} {z : Bool} {t0 t1 t2 t3 t4 t5 t6 t7 t8 t9 t10 t11 t12 t14 t15 t16 t20 t21 t22 t23 t24 t25 t26 t27 t28 t29 t30 t31 t32 t33 t34 t35 t36 t37 t38 t39 t40 t41 t42 t43 t44 t45 t46 t47 t48 t49 t50 t51 t52 t53 t54 t55 t56 t57 t58 t59 t60 t61 t62 t63 t64 t65 t66 t67 t68 t69 t70 t71 t72 t73 t74 t75 t76 t77 t78 t79 t80 t81 t82 t83 t84 t85 t86 t87 t88 t89 t90 t91 t92 t93 t94 t95 t96 t97 t98 t99 t100 t101 t102 t103 t104 t105 t106 t107 t108 t109 t110 t111 t112 t113 t114 t115 t116 t117 t118 t119 t120 t121 t122 t123 t124 t125 t126 t127 t128 t129 t130 t131 t132 t133 t134 t135 t136 t137 t138 t139 t140 t141 t142 t143 t144 t145 t146 t147 t148 t149 t150 t151 t152 t184 t185 t186 t187 t188 t189 t190 t191 t192 t193 t194 t195 t196 t197 t198 t199 t200 t201 t202 t203 t204 t205 t206 t207 t208 t209 t210 : Value} (hi : i < n) (hj : j < n) (hk : k < n) (hcl : ∀ W, Below w0.heap.size w0 W → W.cell? ⟨gb, i, none⟩ = some (.slice (some ⟨Gi, 0, none⟩) n n) ∧ W.cell? ⟨Gi, j, none⟩ = some (.bool false) ∧ W.cell? ⟨Gi, k, none⟩ = some (.bool true) ∧ W.cell? ⟨gb, k, none⟩ = some (.slice (some ⟨Gk, 0, none⟩) n n) ∧ W.cell? ⟨Gk, j, none⟩ = some (.bool z)) :
    ∀ ix o, ix < 31 → ops31[ix]? = some o → StStep Try.prog Q ops31 (RWC gb n Gi Gk i j k z) (fun vs => { tmps := (t0 :: t1 :: t2 :: t3 :: t4 :: t5 :: t6 :: t7 :: t8 :: t9 :: t10 :: t11 :: t12 :: .slice (some ⟨gb, 0, none⟩) n n :: t14 :: t15 :: t16 :: .int .i64 (k : Int) :: .int .i64 (i : Int) :: .int .i64 (j : Int) :: t20 :: t21 :: t22 :: t23 :: t24 :: t25 :: t26 :: t27 :: t28 :: t29 :: t30 :: t31 :: t32 :: t33 :: t34 :: t35 :: t36 :: t37 :: t38 :: t39 :: t40 :: t41 :: t42 :: t43 :: t44 :: t45 :: t46 :: t47 :: t48 :: t49 :: t50 :: t51 :: t52 :: t53 :: t54 :: t55 :: t56 :: t57 :: t58 :: t59 :: t60 :: t61 :: t62 :: t63 :: t64 :: t65 :: t66 :: t67 :: t68 :: t69 :: t70 :: t71 :: t72 :: t73 :: t74 :: t75 :: t76 :: t77 :: t78 :: t79 :: t80 :: t81 :: t82 :: t83 :: t84 :: t85 :: t86 :: t87 :: t88 :: t89 :: t90 :: t91 :: t92 :: t93 :: t94 :: t95 :: t96 :: t97 :: t98 :: t99 :: t100 :: t101 :: t102 :: t103 :: t104 :: t105 :: t106 :: t107 :: t108 :: t109 :: t110 :: t111 :: t112 :: t113 :: t114 :: t115 :: t116 :: t117 :: t118 :: t119 :: t120 :: t121 :: t122 :: t123 :: t124 :: t125 :: t126 :: t127 :: t128 :: t129 :: t130 :: t131 :: t132 :: t133 :: t134 :: t135 :: t136 :: t137 :: t138 :: t139 :: t140 :: t141 :: t142 :: t143 :: t144 :: t145 :: t146 :: t147 :: t148 :: t149 :: t150 :: t151 :: t152 :: vs 0 :: vs 1 :: vs 2 :: vs 3 :: vs 4 :: vs 5 :: vs 6 :: vs 7 :: vs 8 :: vs 9 :: vs 10 :: vs 11 :: vs 12 :: vs 13 :: vs 14 :: vs 15 :: vs 16 :: vs 17 :: vs 18 :: vs 19 :: vs 20 :: vs 21 :: vs 22 :: vs 23 :: vs 24 :: vs 25 :: vs 26 :: vs 27 :: vs 28 :: vs 29 :: vs 30 :: t184 :: t185 :: t186 :: t187 :: t188 :: t189 :: t190 :: t191 :: t192 :: t193 :: t194 :: t195 :: t196 :: t197 :: t198 :: t199 :: t200 :: t201 :: t202 :: t203 :: t204 :: t205 :: t206 :: t207 :: t208 :: t209 :: t210 :: []).toArray, defers := [] }) w0 ix o := by
  have HCL := Lib.hid hcl
  clear hcl
  obtain ⟨ops, hops⟩ : ∃ ops, ops = ops31 := ⟨_, rfl⟩
  rw [← hops]
  conv at hops => rhs; whnf
  subst hops
  intro ix o hlt ho
  match ix, hlt, ho with
  | 0, hlt, ho =>
    obtain rfl := Option.some.inj ho
    intro vs W K hB hD hK
    have HK := Lib.hid hK
    clear hK hD ho hlt
    dsimp only
    go_simp
    have h := HK.out _ _ (Below.refl _ _) rfl
    simp only [upd, Nat.reduceEqDiff, reduceIte] at h
    exact h
  | 1, hlt, ho =>
    obtain rfl := Option.some.inj ho
    intro vs W K hB hD hK
    have HK := Lib.hid hK
    clear hK hD ho hlt
    dsimp only
    go_simp
    have h := HK.out _ _ (Below.refl _ _) rfl
    simp only [upd, Nat.reduceEqDiff, reduceIte] at h
    exact h
  | 2, hlt, ho =>
    obtain rfl := Option.some.inj ho
    intro vs W K hB hD hK
    have HK := Lib.hid hK
    have e0 : vs 0 = .slice (some ⟨gb, 0, none⟩) n n := dep_of hD 0 (by rfl)
    have e1 : vs 1 = .int .i64 (i : Int) := dep_of hD 1 (by rfl)
    clear hK hD ho hlt
    dsimp only
    go_simp
    have h := HK.out _ _ (Below.refl _ _) rfl
    simp only [upd, Nat.reduceEqDiff, reduceIte, e0, e1] at h
    exact h
  | 3, hlt, ho =>
    obtain rfl := Option.some.inj ho
    intro vs W K hB hD hK
    have HK := Lib.hid hK
    have e2 : vs 2 = .pointer (some ⟨gb, i, none⟩) := dep_of hD 2 (by rfl)
    have c1 := (HCL.out W hB).1
    clear hK hD ho hlt
    dsimp only
    go_simp
    have h := HK.out _ _ (Below.refl _ _) rfl
    simp only [upd, Nat.reduceEqDiff, reduceIte, e2] at h
    exact h
  | 4, hlt, ho =>
    obtain rfl := Option.some.inj ho
    intro vs W K hB hD hK
    have HK := Lib.hid hK
    clear hK hD ho hlt
    dsimp only
    go_simp
    have h := HK.out _ _ (Below.refl _ _) rfl
    simp only [upd, Nat.reduceEqDiff, reduceIte] at h
    exact h
  | 5, hlt, ho =>
    obtain rfl := Option.some.inj ho
    intro vs W K hB hD hK
    have HK := Lib.hid hK
    clear hK hD ho hlt
    dsimp only
    go_simp
    have h := HK.out _ _ (Below.refl _ _) rfl
    simp only [upd, Nat.reduceEqDiff, reduceIte] at h
    exact h
  | 6, hlt, ho =>
    obtain rfl := Option.some.inj ho
    intro vs W K hB hD hK
    have HK := Lib.hid hK
    clear hK hD ho hlt
    dsimp only
    go_simp
    have h := HK.out _ _ (Below.refl _ _) rfl
    simp only [upd, Nat.reduceEqDiff, reduceIte] at h
    exact h
  | 7, hlt, ho =>
    obtain rfl := Option.some.inj ho
    intro vs W K hB hD hK
    have HK := Lib.hid hK
    have e5 : vs 5 = .slice (some ⟨gb, 0, none⟩) n n := dep_of hD 5 (by rfl)
    have e6 : vs 6 = .int .i64 (i : Int) := dep_of hD 6 (by rfl)
    clear hK hD ho hlt
    dsimp only
    go_simp
    have h := HK.out _ _ (Below.refl _ _) rfl
    simp only [upd, Nat.reduceEqDiff, reduceIte, e5, e6] at h
    exact h
  | 8, hlt, ho =>
    obtain rfl := Option.some.inj ho
    intro vs W K hB hD hK
    have HK := Lib.hid hK
    have e7 : vs 7 = .pointer (some ⟨gb, i, none⟩) := dep_of hD 7 (by rfl)
    have c1 := (HCL.out W hB).1
    clear hK hD ho hlt
    dsimp only
    go_simp
    have h := HK.out _ _ (Below.refl _ _) rfl
    simp only [upd, Nat.reduceEqDiff, reduceIte, e7] at h
    exact h
  | 9, hlt, ho =>
    obtain rfl := Option.some.inj ho
    intro vs W K hB hD hK
    have HK := Lib.hid hK
    clear hK hD ho hlt
    dsimp only
    go_simp
    have h := HK.out _ _ (Below.refl _ _) rfl
    simp only [upd, Nat.reduceEqDiff, reduceIte] at h
    exact h
  | 10, hlt, ho =>
    obtain rfl := Option.some.inj ho
    intro vs W K hB hD hK
    have HK := Lib.hid hK
    have e8 : vs 8 = .slice (some ⟨Gi, 0, none⟩) n n := dep_of hD 8 (by rfl)
    have e9 : vs 9 = .int .i64 (j : Int) := dep_of hD 9 (by rfl)
    clear hK hD ho hlt
    dsimp only
    go_simp
    have h := HK.out _ _ (Below.refl _ _) rfl
    simp only [upd, Nat.reduceEqDiff, reduceIte, e8, e9] at h
    exact h
  | 11, hlt, ho =>
    obtain rfl := Option.some.inj ho
    intro vs W K hB hD hK
    have HK := Lib.hid hK
    have e10 : vs 10 = .pointer (some ⟨Gi, j, none⟩) := dep_of hD 10 (by rfl)
    have c1 := (HCL.out W hB).2.1
    clear hK hD ho hlt
    dsimp only
    go_simp
    have h := HK.out _ _ (Below.refl _ _) rfl
    simp only [upd, Nat.reduceEqDiff, reduceIte, e10] at h
    exact h
  | 12, hlt, ho =>
    obtain rfl := Option.some.inj ho
    intro vs W K hB hD hK
    have HK := Lib.hid hK
    have e11 : vs 11 = .bool false := dep_of hD 11 (by rfl)
    clear hK hD ho hlt
    dsimp only
    go_simp
    have h := HK.out _ _ (Below.refl _ _) rfl
    simp only [upd, Nat.reduceEqDiff, reduceIte, e11] at h
    exact h
  | 13, hlt, ho =>
    obtain rfl := Option.some.inj ho
    intro vs W K hB hD hK
    have HK := Lib.hid hK
    have e12 : vs 12 = .bool false := dep_of hD 12 (by rfl)
    clear hK hD ho hlt
    dsimp only
    go_simp
    have h := HK.out _ _ (Below.refl _ _) rfl
    simp only [upd, Nat.reduceEqDiff, reduceIte, e12] at h
    exact h
  | 14, hlt, ho =>
    obtain rfl := Option.some.inj ho
    intro vs W K hB hD hK
    have HK := Lib.hid hK
    have e12 : vs 12 = .bool false := dep_of hD 12 (by rfl)
    clear hK hD ho hlt
    dsimp only
    go_simp
    have h := HK.out _ _ (Below.refl _ _) rfl
    simp only [upd, Nat.reduceEqDiff, reduceIte, e12] at h
    exact h
  | 15, hlt, ho =>
    obtain rfl := Option.some.inj ho
    intro vs W K hB hD hK
    have HK := Lib.hid hK
    have e12 : vs 12 = .bool false := dep_of hD 12 (by rfl)
    have e13 : vs 13 = .slice (some ⟨gb, 0, none⟩) n n := dep_of hD 13 (by rfl)
    have e14 : vs 14 = .int .i64 (i : Int) := dep_of hD 14 (by rfl)
    clear hK hD ho hlt
    dsimp only
    go_simp
    have h := HK.out _ _ (Below.refl _ _) rfl
    simp only [upd, Nat.reduceEqDiff, reduceIte, e12, e13, e14] at h
    exact h
  | 16, hlt, ho =>
    obtain rfl := Option.some.inj ho
    intro vs W K hB hD hK
    have HK := Lib.hid hK
    have e12 : vs 12 = .bool false := dep_of hD 12 (by rfl)
    have e15 : vs 15 = .pointer (some ⟨gb, i, none⟩) := dep_of hD 15 (by rfl)
    have c1 := (HCL.out W hB).1
    clear hK hD ho hlt
    dsimp only
    go_simp
    have h := HK.out _ _ (Below.refl _ _) rfl
    simp only [upd, Nat.reduceEqDiff, reduceIte, e12, e15] at h
    exact h
  | 17, hlt, ho =>
    obtain rfl := Option.some.inj ho
    intro vs W K hB hD hK
    have HK := Lib.hid hK
    have e12 : vs 12 = .bool false := dep_of hD 12 (by rfl)
    clear hK hD ho hlt
    dsimp only
    go_simp
    have h := HK.out _ _ (Below.refl _ _) rfl
    simp only [upd, Nat.reduceEqDiff, reduceIte, e12] at h
    exact h
  | 18, hlt, ho =>
    obtain rfl := Option.some.inj ho
    intro vs W K hB hD hK
    have HK := Lib.hid hK
    have e12 : vs 12 = .bool false := dep_of hD 12 (by rfl)
    have e16 : vs 16 = .slice (some ⟨Gi, 0, none⟩) n n := dep_of hD 16 (by rfl)
    have e17 : vs 17 = .int .i64 (k : Int) := dep_of hD 17 (by rfl)
    clear hK hD ho hlt
    dsimp only
    go_simp
    have h := HK.out _ _ (Below.refl _ _) rfl
    simp only [upd, Nat.reduceEqDiff, reduceIte, e12, e16, e17] at h
    exact h
  | 19, hlt, ho =>
    obtain rfl := Option.some.inj ho
    intro vs W K hB hD hK
    have HK := Lib.hid hK
    have e12 : vs 12 = .bool false := dep_of hD 12 (by rfl)
    have e18 : vs 18 = .pointer (some ⟨Gi, k, none⟩) := dep_of hD 18 (by rfl)
    have c1 := (HCL.out W hB).2.2.1
    clear hK hD ho hlt
    dsimp only
    go_simp
    have h := HK.out _ _ (Below.refl _ _) rfl
    simp only [upd, Nat.reduceEqDiff, reduceIte, e12, e18] at h
    exact h
  | 20, hlt, ho =>
    obtain rfl := Option.some.inj ho
    intro vs W K hB hD hK
    have HK := Lib.hid hK
    have e12 : vs 12 = .bool false := dep_of hD 12 (by rfl)
    have e19 : vs 19 = .bool true := dep_of hD 19 (by rfl)
    clear hK hD ho hlt
    dsimp only
    go_simp
    have h := HK.out _ _ (Below.refl _ _) rfl
    simp only [upd, Nat.reduceEqDiff, reduceIte, e12, e19] at h
    exact h
  | 21, hlt, ho =>
    obtain rfl := Option.some.inj ho
    intro vs W K hB hD hK
    have HK := Lib.hid hK
    have e20 : vs 20 = .bool true := dep_of hD 20 (by rfl)
    clear hK hD ho hlt
    dsimp only
    go_simp
    have h := HK.out _ _ (Below.refl _ _) rfl
    simp only [upd, Nat.reduceEqDiff, reduceIte, e20] at h
    exact h
  | 22, hlt, ho =>
    obtain rfl := Option.some.inj ho
    intro vs W K hB hD hK
    have HK := Lib.hid hK
    have e20 : vs 20 = .bool true := dep_of hD 20 (by rfl)
    clear hK hD ho hlt
    dsimp only
    go_simp
    have h := HK.out _ _ (Below.refl _ _) rfl
    simp only [upd, Nat.reduceEqDiff, reduceIte, e20] at h
    exact h
  | 23, hlt, ho =>
    obtain rfl := Option.some.inj ho
    intro vs W K hB hD hK
    have HK := Lib.hid hK
    have e20 : vs 20 = .bool true := dep_of hD 20 (by rfl)
    have e21 : vs 21 = .slice (some ⟨gb, 0, none⟩) n n := dep_of hD 21 (by rfl)
    have e22 : vs 22 = .int .i64 (k : Int) := dep_of hD 22 (by rfl)
    clear hK hD ho hlt
    dsimp only
    go_simp
    have h := HK.out _ _ (Below.refl _ _) rfl
    simp only [upd, Nat.reduceEqDiff, reduceIte, e20, e21, e22] at h
    exact h
  | 24, hlt, ho =>
    obtain rfl := Option.some.inj ho
    intro vs W K hB hD hK
    have HK := Lib.hid hK
    have e20 : vs 20 = .bool true := dep_of hD 20 (by rfl)
    have e23 : vs 23 = .pointer (some ⟨gb, k, none⟩) := dep_of hD 23 (by rfl)
    have c1 := (HCL.out W hB).2.2.2.1
    clear hK hD ho hlt
    dsimp only
    go_simp
    have h := HK.out _ _ (Below.refl _ _) rfl
    simp only [upd, Nat.reduceEqDiff, reduceIte, e20, e23] at h
    exact h
  | 25, hlt, ho =>
    obtain rfl := Option.some.inj ho
    intro vs W K hB hD hK
    have HK := Lib.hid hK
    have e20 : vs 20 = .bool true := dep_of hD 20 (by rfl)
    clear hK hD ho hlt
    dsimp only
    go_simp
    have h := HK.out _ _ (Below.refl _ _) rfl
    simp only [upd, Nat.reduceEqDiff, reduceIte, e20] at h
    exact h
  | 26, hlt, ho =>
    obtain rfl := Option.some.inj ho
    intro vs W K hB hD hK
    have HK := Lib.hid hK
    have e20 : vs 20 = .bool true := dep_of hD 20 (by rfl)
    have e24 : vs 24 = .slice (some ⟨Gk, 0, none⟩) n n := dep_of hD 24 (by rfl)
    have e25 : vs 25 = .int .i64 (j : Int) := dep_of hD 25 (by rfl)
    clear hK hD ho hlt
    dsimp only
    go_simp
    have h := HK.out _ _ (Below.refl _ _) rfl
    simp only [upd, Nat.reduceEqDiff, reduceIte, e20, e24, e25] at h
    exact h
  | 27, hlt, ho =>
    obtain rfl := Option.some.inj ho
    intro vs W K hB hD hK
    have HK := Lib.hid hK
    have e20 : vs 20 = .bool true := dep_of hD 20 (by rfl)
    have e26 : vs 26 = .pointer (some ⟨Gk, j, none⟩) := dep_of hD 26 (by rfl)
    have c1 := (HCL.out W hB).2.2.2.2
    clear hK hD ho hlt
    dsimp only
    go_simp
    have h := HK.out _ _ (Below.refl _ _) rfl
    simp only [upd, Nat.reduceEqDiff, reduceIte, e20, e26] at h
    exact h
  | 28, hlt, ho =>
    obtain rfl := Option.some.inj ho
    intro vs W K hB hD hK
    have HK := Lib.hid hK
    have e12 : vs 12 = .bool false := dep_of hD 12 (by rfl)
    have e20 : vs 20 = .bool true := dep_of hD 20 (by rfl)
    have e27 : vs 27 = .bool z := dep_of hD 27 (by rfl)
    clear hK hD ho hlt
    dsimp only
    go_simp
    have h := HK.out _ _ (Below.refl _ _) rfl
    simp only [upd, Nat.reduceEqDiff, reduceIte, e12, e20, e27] at h
    exact h
  | 29, hlt, ho =>
    obtain rfl := Option.some.inj ho
    intro vs W K hB hD hK
    have HK := Lib.hid hK
    have e12 : vs 12 = .bool false := dep_of hD 12 (by rfl)
    have e28 : vs 28 = .bool z := dep_of hD 28 (by rfl)
    clear hK hD ho hlt
    dsimp only
    go_simp
    have h := HK.out _ _ (Below.refl _ _) rfl
    simp only [upd, Nat.reduceEqDiff, reduceIte, e12, e28] at h
    exact h
  | 30, hlt, ho =>
    obtain rfl := Option.some.inj ho
    intro vs W K hB hD hK
    have HK := Lib.hid hK
    have e3 : vs 3 = .slice (some ⟨Gi, 0, none⟩) n n := dep_of hD 3 (by rfl)
    have e4 : vs 4 = .int .i64 (j : Int) := dep_of hD 4 (by rfl)
    clear hK hD ho hlt
    dsimp only
    go_simp
    have h := HK.out _ _ (Below.refl _ _) rfl
    simp only [upd, Nat.reduceEqDiff, reduceIte, e3, e4] at h
    exact h
  | n + 31, hlt, ho => omega

end Go.Proofs.Ytjhafakkadnfmaa
