/- What run does. -/
import Derived.Test.YtjhafakkadnfmaaSo11
namespace Go.Proofs.Ytjhafakkadnfmaa
open Go.RowKit

set_option maxRecDepth 100000 in
set_option maxHeartbeats 4000000 in
theorem run_c (w : World) (D : Ad) (g : Gm) (n : Nat) (bf : List (List Int)) (al : List Bool) (lf wn : List Int) (vr : Value) (r : List Int) (hS : Sv w.heap.size w D g n bf al lf wn) (hG : GOK g n bf) (hr : Kp w.heap.size w D vr r)
    (hM : Mem n al r) (hlf : LfOK g n al lf) (htot : TotB g n al) :
    Calls Try.prog 31 #[.pointer (some ⟨D.sp, 0, none⟩), vr] w (Part1 w D g n al lf wn) := by
  have HS := Lib.hid hS
  have HG := Lib.hid hG
  have HR := Lib.hid hr
  have HM := Lib.hid hM
  have HL := Lib.hid hlf
  have HT := Lib.hid htot
  have HHot : Hid (∀ k, D.hot k → k < w.heap.size) := hS.hot_lt
  clear hS hG hr hM hlf htot
  go_enter Try.func31, Try.ntmps31
  go_upto_region 4 with (fail)
  have hb1 := bel_box (w := w) (Obj.cells #[.pointer (some ⟨D.sp, 0, none⟩)] 50)
  have hb2 := bel_box (w := w.alloc (Obj.cells #[.pointer (some ⟨D.sp, 0, none⟩)] 50)) (Obj.cells #[.func (.func 43) #[] #[.pointer (some ⟨w.heap.size, 0, none⟩)]] 64)
  have hb3 := bel_box (w := (w.alloc (Obj.cells #[.pointer (some ⟨D.sp, 0, none⟩)] 50)).alloc (Obj.cells #[.func (.func 43) #[] #[.pointer (some ⟨w.heap.size, 0, none⟩)]] 64)) (Obj.cells #[.func (.func 44) #[] #[.pointer (some ⟨w.heap.size, 0, none⟩), .pointer (some ⟨w.heap.size + 1, 0, none⟩), .pointer (some ⟨w.heap.size + 1 + 1, 0, none⟩)]] 54)
  have hb := hb1.trans ((hb2.trans (hb3.mono hb2.size)).mono hb1.size)
  have k1 : (((w.alloc (Obj.cells #[.pointer (some ⟨D.sp, 0, none⟩)] 50)).alloc (Obj.cells #[.func (.func 43) #[] #[.pointer (some ⟨w.heap.size, 0, none⟩)]] 64)).alloc (Obj.cells #[.func (.func 44) #[] #[.pointer (some ⟨w.heap.size, 0, none⟩), .pointer (some ⟨w.heap.size + 1, 0, none⟩), .pointer (some ⟨w.heap.size + 1 + 1, 0, none⟩)]] 54)).heap[w.heap.size]? = some (Obj.cells #[.pointer (some ⟨D.sp, 0, none⟩)] 50 (0, 0)) := by
    rw [hb3.block _ (by simp; omega), hb2.block _ (by simp)]; exact heap_alloc_new w _
  have k2 : (((w.alloc (Obj.cells #[.pointer (some ⟨D.sp, 0, none⟩)] 50)).alloc (Obj.cells #[.func (.func 43) #[] #[.pointer (some ⟨w.heap.size, 0, none⟩)]] 64)).alloc (Obj.cells #[.func (.func 44) #[] #[.pointer (some ⟨w.heap.size, 0, none⟩), .pointer (some ⟨w.heap.size + 1, 0, none⟩), .pointer (some ⟨w.heap.size + 1 + 1, 0, none⟩)]] 54)).heap[w.heap.size + 1]? = some (Obj.cells #[.func (.func 43) #[] #[.pointer (some ⟨w.heap.size, 0, none⟩)]] 64 (0, 0)) := by
    rw [hb3.block _ (by simp)]
    have := heap_alloc_new (w.alloc (Obj.cells #[.pointer (some ⟨D.sp, 0, none⟩)] 50)) (Obj.cells #[.func (.func 43) #[] #[.pointer (some ⟨w.heap.size, 0, none⟩)]] 64)
    rwa [World.size_alloc] at this
  have k3 : (((w.alloc (Obj.cells #[.pointer (some ⟨D.sp, 0, none⟩)] 50)).alloc (Obj.cells #[.func (.func 43) #[] #[.pointer (some ⟨w.heap.size, 0, none⟩)]] 64)).alloc (Obj.cells #[.func (.func 44) #[] #[.pointer (some ⟨w.heap.size, 0, none⟩), .pointer (some ⟨w.heap.size + 1, 0, none⟩), .pointer (some ⟨w.heap.size + 1 + 1, 0, none⟩)]] 54)).heap[w.heap.size + 1 + 1]? = some (Obj.cells #[.func (.func 44) #[] #[.pointer (some ⟨w.heap.size, 0, none⟩), .pointer (some ⟨w.heap.size + 1, 0, none⟩), .pointer (some ⟨w.heap.size + 1 + 1, 0, none⟩)]] 54 (0, 0)) := by
    have := heap_alloc_new ((w.alloc (Obj.cells #[.pointer (some ⟨D.sp, 0, none⟩)] 50)).alloc (Obj.cells #[.func (.func 43) #[] #[.pointer (some ⟨w.heap.size, 0, none⟩)]] 64)) (Obj.cells #[.func (.func 44) #[] #[.pointer (some ⟨w.heap.size, 0, none⟩), .pointer (some ⟨w.heap.size + 1, 0, none⟩), .pointer (some ⟨w.heap.size + 1 + 1, 0, none⟩)]] 54)
    rwa [World.size_alloc, World.size_alloc] at this
  have hsz : (((w.alloc (Obj.cells #[.pointer (some ⟨D.sp, 0, none⟩)] 50)).alloc (Obj.cells #[.func (.func 43) #[] #[.pointer (some ⟨w.heap.size, 0, none⟩)]] 64)).alloc (Obj.cells #[.func (.func 44) #[] #[.pointer (some ⟨w.heap.size, 0, none⟩), .pointer (some ⟨w.heap.size + 1, 0, none⟩), .pointer (some ⟨w.heap.size + 1 + 1, 0, none⟩)]] 54)).heap.size = w.heap.size + 1 + 1 + 1 := by rw [World.size_alloc, World.size_alloc, World.size_alloc]
  clear hb1 hb2 hb3
  have e5 := cell_of_row _ _ 0 _ _ _ k3
  generalize (((w.alloc (Obj.cells #[.pointer (some ⟨D.sp, 0, none⟩)] 50)).alloc (Obj.cells #[.func (.func 43) #[] #[.pointer (some ⟨w.heap.size, 0, none⟩)]] 64)).alloc (Obj.cells #[.func (.func 44) #[] #[.pointer (some ⟨w.heap.size, 0, none⟩), .pointer (some ⟨w.heap.size + 1, 0, none⟩), .pointer (some ⟨w.heap.size + 1 + 1, 0, none⟩)]] 54)) = w4 at *
  have HS4 : Hid (Sv w4.heap.size w4 D g n bf al lf wn) := (HS.out.below hb).up hb.size
  have HR4 : Hid (Kp w4.heap.size w4 D vr r) := (HR.out.only (Only.of_below hb)).up hb.size
  have HC : Hid (Cx w4.heap.size w4 D w.heap.size (w.heap.size + 1) (w.heap.size + 1 + 1)) := fun W hW => by
    have hh : ∀ k, w.heap.size ≤ k → k < w4.heap.size → ¬ (D.hot k ∨ w4.heap.size ≤ k) := fun k h1 h2 h => by
      rcases h with h | h
      · have := HHot.out k h; omega
      · omega
    exact ⟨cell_of_row _ _ 0 _ _ _ ((hW.block _ (by omega) (hh _ (by omega) (by omega))).trans k1), cell_of_row _ _ 0 _ _ _ ((hW.block _ (by omega) (hh _ (by omega) (by omega))).trans k2), cell_of_row _ _ 0 _ _ _ ((hW.block _ (by omega) (hh _ (by omega) (by omega))).trans k3)⟩
  have HB := Lib.hid hb
  clear k1 k2 k3 hb
  go_wp2_with fail
  refine (part_c (r.length + 1) w4 D g n bf al lf wn vr r _ _ _ (by omega) HS4.out HG.out HR4.out HM.out HL.out HT.out HC.out).mono ?_
  rintro e w5 ⟨rfl, wn', ha, hl, hw, hwl, ho, hs, hout⟩
  have hF : Only D.hot w w5 := (Only.of_below HB.out).trans ho
  go_wp2
  go_end0
  exact ⟨rfl, wn', ha, hl, hw, hwl, hF, hs, hout⟩

end Go.Proofs.Ytjhafakkadnfmaa
