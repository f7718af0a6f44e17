/- The function literals of run and least; least. -/
import Derived.Test.YtjhafakkadnfmaaSo6
import Derived.Test.YtjhafakkadnfmaaRegSt
namespace Go.Proofs.Ytjhafakkadnfmaa
open Go.RowKit

theorem enters_living : Enters Try.prog 43 := enters_of Try.func43 (by kernel_rfl) rfl
theorem enters_other : Enters Try.prog 50 := enters_of Try.func50 (by kernel_rfl) rfl
theorem enters_low : Enters Try.prog 56 := enters_of Try.func56 (by kernel_rfl) rfl

set_option maxHeartbeats 1000000 in
theorem living_c (W : World) {B : Nat} {D : Ad} {g : Gm} {n : Nat} {bf : List (List Int)} {al : List Bool} {lf wn : List Int} (hS : Sv B W D g n bf al lf wn) (c v : Nat) (hc : W.cell? ⟨c, 0, none⟩ = some (.pointer (some ⟨D.sp, 0, none⟩))) (hv : v < n) :
    Calls Try.prog 43 #[.int .i64 (v : Int), .pointer (some ⟨c, 0, none⟩)] W (Calm (.bool (al.getD v false)) W) := by
  have c4 := hS.field 4 rfl
  obtain ⟨a1, -⟩ := hS.cellA hv
  clear hS
  generalize al.getD v false = b at *
  go_enter Try.func43, Try.ntmps43
  go_wp2
  go_ret
  exact ⟨rfl, Below.refl _ _⟩

set_option maxHeartbeats 1000000 in
theorem other_c (W : World) {B : Nat} {D : Ad} {g : Gm} {n : Nat} {bf : List (List Int)} {al : List Bool} {lf wn : List Int} (hS : Sv B W D g n bf al lf wn) (c c6 v : Nat) (p : Int) (hc : W.cell? ⟨c, 0, none⟩ = some (.pointer (some ⟨D.sp, 0, none⟩))) (hp : W.cell? ⟨c6, 0, none⟩ = some (.int .i64 p)) (hv : v < n) :
    Calls Try.prog 50 #[.int .i64 (v : Int), .pointer (some ⟨c, 0, none⟩), .pointer (some ⟨c6, 0, none⟩)] W (Calm (.bool (wn.getD v 0 != p)) W) := by
  have c4 := hS.field 6 rfl
  obtain ⟨a1, -⟩ := hS.cellW hv
  clear hS
  generalize wn.getD v 0 = x at *
  go_enter Try.func50, Try.ntmps50
  go_wp2
  refine wp_region_quiet_lit (by kernel_rfl) (by kernel_rfl) ?_
  ((repeat (go_big_quiet_step (fail))); refine wpQuiet_nil ?_; rintro _ ⟨nq, rfl⟩)
  go_wp2
  go_ret
  exact ⟨rfl, below_draws _ _ _⟩

set_option maxHeartbeats 1000000 in
theorem low_c (W : World) {B : Nat} {D : Ad} {g : Gm} {n : Nat} {bf : List (List Int)} {al : List Bool} {lf wn : List Int} (hS : Sv B W D g n bf al lf wn) (hpn : g.prio.length = n) (c c6 c10 v : Nat) (p l0 l1 : Int) (hc : W.cell? ⟨c, 0, none⟩ = some (.pointer (some ⟨D.sp, 0, none⟩))) (h0 : W.cell? ⟨c6, 0, none⟩ = some (.int .i64 l0)) (h1 : W.cell? ⟨c6, 1, none⟩ = some (.int .i64 l1)) (hp : W.cell? ⟨c10, 0, none⟩ = some (.int .i64 p)) (hp01 : p = 0 ∨ p = 1) (hv : v < n) :
    Calls Try.prog 56 #[.int .i64 (v : Int), .pointer (some ⟨c, 0, none⟩), .pointer (some ⟨c6, 0, none⟩), .pointer (some ⟨c10, 0, none⟩)] W (Calm (.bool (decide (g.prio.getD v 0 < if p = 0 then l1 else l0))) W) := by
  have c1 := hS.field 1 rfl
  obtain ⟨⟨ao, co, bo, oo, hv0, gO⟩, -⟩ := (hS.fx W (Only.refl _ _)).pr
  rw [hpn] at hv0 gO
  obtain rfl := gO.ad (by omega)
  have e4 := gO.el v hv
  have hnn := gO.nb
  unfold ivF at e4
  rw [hv0] at c1
  clear hS gO hv0
  generalize g.prio.getD v 0 = x at *
  rcases hp01 with rfl | rfl
  · rw [if_pos rfl]
    go_enter Try.func56, Try.ntmps56
    go_wp2
    refine wp_region_quiet_lit (by kernel_rfl) (by kernel_rfl) ?_
    ((repeat (go_big_quiet_step (fail))); refine wpQuiet_nil ?_; rintro _ ⟨nq, rfl⟩)
    go_wp2
    go_ret
    exact ⟨rfl, below_draws _ _ _⟩
  · rw [if_neg (by decide)]
    go_enter Try.func56, Try.ntmps56
    go_wp2
    refine wp_region_quiet_lit (by kernel_rfl) (by kernel_rfl) ?_
    ((repeat (go_big_quiet_step (fail))); refine wpQuiet_nil ?_; rintro _ ⟨nq, rfl⟩)
    go_wp2
    go_ret
    exact ⟨rfl, below_draws _ _ _⟩

end Go.Proofs.Ytjhafakkadnfmaa
