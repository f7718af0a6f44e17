/- What slices.Grow of the nil slice and slices.Concat compute. -/
import Derived.Test.YtkbiopjinegckaaStCb
import Derived.Lib.AppendZeros
namespace Go.Proofs.Ytkbiopjinegckaa
open Go.RowKit

set_option maxHeartbeats 2000000 in
theorem Grow_c (w : World) (n : Nat) (hn : n ≤ 100000) :
    Calls Try.prog 47 #[.slice none 0 0, .int .i64 (n : Int)] w (NewO [] w) := by
  rcases Nat.eq_zero_or_pos n with rfl | h0
  · go_enter Try.func47, Try.ntmps47
    go_wp2
    go_ret
    exact ⟨_, rfl, OI_nil _ _, Below.refl _ _⟩
  · obtain ⟨i, hi, hz0, hz1, hz2⟩ := info_parts info_int
    have HA : Hid (∀ W : World, (Builtin.append_ #[22, 3] 22 #[.slice none 0 0, .int .i64 (n : Int)]).run Try.prog W = .ok (.slice (some ⟨W.heap.size, 0, none⟩) n (grownCap W n 0 3)) (W.drew.alloc (.cells (Builtin.zeroCells (Value.int .i64 0).cells n ++ Builtin.zeroCells (Value.int .i64 0).cells (grownCap W n 0 3 - n)) 3))) :=
      fun W => Lib.run_append_nil_zeros W _ _ _ _ i _ .i64 .i64 Try.underlying22 Try.underlying3 hi hz0 n h0 (by rw [hz1]; decide) (by omega) (by rw [hz2]; omega)
    have hg := grownCap_ge w n 0 3
    have hm := grownCap_le_maxLen w n 0 3 (by unfold maxLen; omega)
    have hO : OI (w.drew.alloc (.cells (Builtin.zeroCells (Value.int .i64 0).cells n ++ Builtin.zeroCells (Value.int .i64 0).cells (grownCap w n 0 3 - n)) 3)) w.heap.size (.slice (some ⟨w.heap.size, 0, none⟩) 0 (grownCap w n 0 3)) [] :=
      World.ownsRow_made w.drew _ _ (by simp) hm (by simp [Builtin.zeroCells, Value.cells]; omega)
    have HO := Lib.hid hO
    clear hO hi hz0 hz1 hz2
    generalize hgc : grownCap w n 0 3 = gc at *
    have HG := Lib.hid hgc
    clear hgc
    have HA2 := HA.out w
    rw [HG.out] at HA2
    have HA3 := Lib.hid HA2
    clear HA2 HA
    go_enter Try.func47, Try.ntmps47
    go_wp2_with (at_builtin; refine Lib.wpList_append_run _ rfl _ _ _ _ rfl _ _ rfl rfl _ _ HA3.out ?_)
    go_ret
    exact ⟨_, rfl, HO.out, (bel_box _).drew⟩

set_option maxHeartbeats 2000000 in
theorem Concat_c (w : World) (vl : Value) (ll : List (List Int)) (hl : IsRows w vl ll) (hlen : (flatL ll).length ≤ 100000) :
    Calls Try.prog 39 #[vl] w (NewN (flatL ll) w) := by
  obtain ⟨V, ⟨ao, cap, b, off, rfl, g⟩, hrow⟩ := hl
  have hn := g.nb
  have HRow := Lib.hid (fun k (hk : k < ll.length) => hrow k hk)
  have HGet := Lib.hid (fun k (hk : k < ll.length) => g.el k hk)
  have HAd := Lib.hid g.ad
  have HTake := Lib.hid (fun k (h : k < ll.length) => flat_take ll k h)
  have HLe := Lib.hid (fun k => flat_le ll k)
  have HR : Hid (∀ x ∈ flatL ll, I64 x) := fun x hx => by
    obtain ⟨l, hl, hx⟩ := List.mem_flatten.1 hx
    obtain ⟨j, hj, rfl⟩ := List.getElem_of_mem hl
    have := (hrow j hj).2 x
    rw [show ll.getD j [] = ll[j] by simp [List.getD, hj]] at this
    exact this hx
  clear g hrow
  go_enter Try.func39, Try.ntmps39
  go_wp2
  go_loop [3, 11] (fun s i => ∃ k : Nat, i = .int .i64 k ∧ s = .int .i64 ((flatL (ll.take k)).length : Nat) ∧ k ≤ ll.length) (fun _ i => ll.length - (intOf i).toNat)
  case atStart => exact ⟨0, rfl, by simp [flatL], by omega⟩
  case round =>
    obtain ⟨k, rfl, rfl, hk⟩ := hrel
    have hle := HLe.out k
    by_cases hlt : k < ll.length
    · obtain rfl := HAd.out (by omega)
      have e1 := HGet.out k hlt
      obtain ⟨⟨a5, c5, b5, o5, h5, -⟩, -⟩ := HRow.out k hlt
      rw [h5] at e1
      have hT : (flatL (ll.take (k + 1))).length = (flatL (ll.take k)).length + (ll.getD k []).length := by rw [HTake.out k hlt, List.length_append]
      have hle2 := HLe.out (k + 1)
      have HT := Lib.hid hT
      have hs : (flatL (ll.take k)).length + (ll.getD k []).length ≤ 100000 := by omega
      clear hT h5 hle2
      generalize (flatL (ll.take k)).length = n1 at *
      generalize (ll.getD k []).length = n2 at *
      go_wp2
      go_round
      case rel => exact ⟨k + 1, by go_num, by rw [HT.out]; go_num, by omega⟩
      case measure => simp [intOf]; omega
    · obtain rfl : k = ll.length := by omega
      have HAll : Hid (flatL (ll.take ll.length) = flatL ll) := by show _ = _; rw [List.take_length]
      rw [HAll.out] at hle ⊢
      clear hle hk hlt HAll
      go_wp2_with fail
      refine (Grow_c _ _ hlen).mono ?_
      rintro e w2 ⟨v2, rfl, O2, B2⟩
      have HO := Lib.hid O2
      clear O2
      go_wp2
      go_loopw [6, 27] (fun s i wr => ∃ k : Nat, i = .int .i64 k ∧ k ≤ ll.length ∧ Hid (OI wr w.heap.size s (flatL (ll.take k))) ∧ Below w.heap.size w wr) (fun _ i _ => ll.length - (intOf i).toNat)
      case atStart => exact ⟨0, rfl, by omega, by simpa [flatL] using HO, B2⟩
      case round =>
        obtain ⟨k, rfl, hk, HO, hB⟩ := hrel
        by_cases hlt : k < ll.length
        · obtain rfl := HAd.out (by omega)
          have e1 := cellB hB (HGet.out k hlt)
          have hi5 := (HRow.out k hlt).below hB
          have h6 := HRow.out k hlt
          obtain ⟨⟨a5, c5, b5, o5, h5, -⟩, -⟩ := h6
          rw [h5] at e1 hi5
          have HI := Lib.hid hi5
          have HT := Lib.hid (HTake.out k hlt)
          have hle2 := HLe.out (k + 1)
          have hbz := hB.size
          rw [HT.out, List.length_append] at hle2
          clear h5 hi5
          generalize ll.getD k [] = l2 at *
          go_wp2_with (at_builtin; refine app_ints rfl _ _ rfl w.heap.size _ _ _ _ HO.out rfl HI.out rfl (by omega) hbz ?_; intro v' w' hown' hg hmv; have HO2 := Lib.hid hown'; have HB2 := Lib.hid (hB.grown hg hbz (fun g h => HO.out.ge g h)); clear hown' hg hmv)
          go_roundw
          case rel => exact ⟨k + 1, by go_num, by omega, by rw [HT.out]; exact HO2, HB2.out⟩
          case measure => simp [intOf]; omega
        · obtain rfl : k = ll.length := by omega
          have HAll : Hid (flatL (ll.take ll.length) = flatL ll) := by show _ = _; rw [List.take_length]
          rw [HAll.out] at HO
          go_wp2
          go_ret
          exact ⟨_, rfl, HO.out.is (by simp only [maxN]; omega) HR.out, hB⟩

end Go.Proofs.Ytkbiopjinegckaa
