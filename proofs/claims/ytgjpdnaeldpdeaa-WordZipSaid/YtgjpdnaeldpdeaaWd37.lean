/- What Zip computes: the walk of two formed words. -/
import Derived.Test.YtgjpdnaeldpdeaaWd36
import Derived.Sort.LoopGhostIn
import Derived.Test.YtgjpdnaeldpdeaaWdV
namespace Go.Proofs.Ytgjpdnaeldpdeaa
open Go.RowKit Go.Shelf
attribute [local go_sem] Oper.semAt_some

/-- What the operations of the last statement leave. -/
def RZ (g S v : Nat) (sl : Ls) (i : Nat) (x : Value) (W : World) : Prop :=
  match i with
  | 0 => x = .slice (some ⟨g, 0, none⟩) (S + v) (S + v)
  | 1 => x = .int .i64 (S : Int)
  | 2 => x = .slice (some ⟨g, 0, none⟩) S (S + v)
  | 3 => x = .slice (some ⟨g, 0, none⟩) (S + v) (S + v)
  | 4 => x = .int .i64 (S : Int)
  | 5 => x = .slice (some ⟨g, S, none⟩) v v
  | 6 => x = .agg #[.slice (some ⟨g, 0, none⟩) S (S + v), .slice (some ⟨g, S, none⟩) v v]
  | 7 => LV sl x W
  | _ => True
theorem RZ.mono (g S v : Nat) (sl : Ls) (i : Nat) (x : Value) (W W' : World) (h : RZ g S v sl i x W) (hb : Below W.heap.size W W') : RZ g S v sl i x W' := by
  unfold RZ at *
  split at h <;> first | exact LV.below h hb | exact h

theorem NewT.give {l : Ls} {w w' : World} {e : Ending} (h : NewT l w e w') : GiveL l w e w' := by
  obtain ⟨a, b, c, d, rfl, h0, h1, hb⟩ := h
  exact ⟨_, rfl, ⟨_, _, _, _, rfl, IsLs.mk h0.out h1.out⟩, hb⟩

set_option maxRecDepth 100000 in
set_option maxHeartbeats 8000000 in
theorem Zip_yes (w : World) (va vb vt : Value) (a b : Ls) (t : List (List Int)) (ha : IsLs w va a) (hb : IsLs w vb b) (ht : IsRows w vt t) (fa : formB a = true) (fb : formB b = true) :
    Calls Try.prog 28 #[va, vb, vt] w (NewL (zipI a b t) w) := by
  have HFA := Lib.hid (fun (W : World) (hW : Below w.heap.size w W) => formed_c W va a (ha.below hW))
  have HFB := Lib.hid (fun (W : World) (hW : Below w.heap.size w W) => formed_c W vb b (hb.below hW))
  rw [fa] at HFA
  rw [fb] at HFB
  obtain ⟨V, ⟨aT, cT, bT, oT, rfl, gT⟩, hRow⟩ := ht
  have hnT := gT.nb
  have HRow := Lib.hid (fun k (hk : k < t.length) => hRow k hk)
  have HZ64 := Lib.hid (fun i => zipW_I64 (a := a) (b := b) (fun k hk => (hRow k hk).2) i)
  have HGet := Lib.hid (fun k (hk : k < t.length) => gT.el k hk)
  have HAd := Lib.hid gT.ad
  clear gT hRow
  obtain ⟨s1, s2, s3⟩ := formB_short fa
  obtain ⟨t1, t2, t3⟩ := formB_short fb
  have hS : zipS a b ≤ 60 := Nat.max_le.2 ⟨s1, t1⟩
  have hmax : max (a.stem.length : Int) (b.stem.length : Int) = ((zipS a b : Nat) : Int) := by unfold zipS; omega
  have HLA := Lib.hid (fun i => letters_nat fa i)
  have HLB := Lib.hid (fun i => letters_nat fb i)
  have HYes : Hid (∀ n, 0 < n → n % a.loop.length = 0 → n % b.loop.length = 0 → zipAll a b t n = true → zipI a b t = shortL (zipN a b t n)) := fun n h0 h1 h2 h => zipI_yes fa fb h0 h1 h2 h
  have HNo : Hid (∀ n, 0 < n → n % a.loop.length = 0 → n % b.loop.length = 0 → zipAll a b t n = false → zipI a b t = zeroL) := fun n h0 h1 h2 h => zipI_no fa fb h0 h1 h2 h
  have hla : 0 < a.loop.length := by omega
  have hlb : 0 < b.loop.length := by omega
  have HMul : Hid (∀ j, j ≤ b.loop.length → a.loop.length * j ≤ 1600) := fun j hj => Nat.le_trans (Nat.mul_le_mul s3 (Nat.le_trans hj t3)) (by omega)
  have HA := Lib.hid ha
  have HB := Lib.hid hb
  obtain ⟨v0, v1, rfl, h0, h1⟩ := ha
  obtain ⟨⟨a0, c0, b0, o0, rfl, g0⟩, -⟩ := h0
  obtain ⟨⟨a1, c1, b1, o1, rfl, g1⟩, -⟩ := h1
  obtain ⟨v2, v3, rfl, h2, h3⟩ := hb
  obtain ⟨⟨a2, c2, b2, o2, rfl, g2⟩, -⟩ := h2
  obtain ⟨⟨a3, c3, b3, o3, rfl, g3⟩, -⟩ := h3
  clear g0 g1 g2 g3 fa fb
  generalize hr : zipI a b t = r at *
  generalize hSS : zipS a b = S at *
  have HSS := Lib.hid hSS
  clear hr hSS
  obtain ⟨ii, hii, hz0, hz1, hz2⟩ := info_parts info_int
  have hmx : Try.prog.follows .mixedOrders = true := by kernel_rfl
  refine callsIn_wide (n := 5) |>.1 ?_
  refine callsIn_of_wp_marks0 Try.func28 rfl trivial ?_
  simp only [Try.ntmps28, List.size_toArray, List.length_cons, List.length_nil, Nat.reduceAdd, Nat.reduceSub, Array.replicate_succ, Array.replicate_zero, List.push_toArray, List.append_toArray, List.nil_append, List.cons_append]
  gi_upto_region 1 with (fail)
  obtain ⟨hB0, rA, rB, rT, rR, hz⟩ := wabtr w (.slice aT t.length cT) a0 a1 a2 a3 a.stem.length a.loop.length b.stem.length b.loop.length c0 c1 c2 c3
  change Code.wpIn _ _ _ _ _ _ (WABTR w (.slice aT t.length cT) a0 a1 a2 a3 a.stem.length a.loop.length b.stem.length b.loop.length c0 c1 c2 c3)
  generalize WABTR w (.slice aT t.length cT) a0 a1 a2 a3 a.stem.length a.loop.length b.stem.length b.loop.length c0 c1 c2 c3 = w1 at *
  obtain ⟨p0, p1, -, -⟩ := boxF rA
  gi_wp2_with fail
  refine ⟨trivial, ?_⟩
  refine (callsIn_wide.2 (HFA.out _ hB0)).mono ?_
  rintro e w2 ⟨rfl, hb2⟩
  have hB2 := hB0.trans (hb2.mono hB0.size)
  replace rA := blkB hb2 rA
  replace rB := blkB hb2 rB
  replace rT := blkB hb2 rT
  replace rR := blkB hb2 rR
  have hz2' : w.heap.size + 4 ≤ w2.heap.size := by have := hb2.size; omega
  clear p0 p1 hb2 hB0 hz HFA
  obtain ⟨q0, q1, -, -⟩ := boxF rB
  gi_wp2_with fail
  refine ⟨trivial, ?_⟩
  refine (callsIn_wide.2 (HFB.out _ hB2)).mono ?_
  rintro e w3 ⟨rfl, hb3⟩
  have hB3 := hB2.trans (hb3.mono hB2.size)
  replace rA := blkB hb3 rA
  replace rB := blkB hb3 rB
  replace rT := blkB hb3 rT
  replace rR := blkB hb3 rR
  have hz3 : w.heap.size + 4 ≤ w3.heap.size := by have := hb3.size; omega
  clear q0 q1 hb3 hB2 hz2' HFB
  obtain ⟨p0, p1, -, -⟩ := boxF rA
  obtain ⟨q0, q1, -, -⟩ := boxF rB
  gi_upto_region 3 with (fail)
  gi_cut [7] from 22 (fun v wx => v = .pointer (some ⟨w3.heap.size, 0, none⟩) ∧ w3.alloc (.cells #[.int .i64 (S : Nat)] 3) = wx)
  case first =>
    gi_wp2_with fail
    all_goals
      gi_meet
      case rel => exact ⟨rfl, by first | rw [show S = a.stem.length by omega] | rw [show S = b.stem.length by omega]⟩
  case rest =>
    obtain ⟨rfl, hwc⟩ := hcut
    have hb4 : Below w3.heap.size w3 wc := by rw [← hwc]; exact bel_box _
    have rS : wc.heap[w3.heap.size]? = some (.cells #[.int .i64 (S : Nat)] 3 (0, 0)) := by rw [← hwc]; exact heap_alloc_new _ _
    have hz4 : wc.heap.size = w3.heap.size + 1 := by rw [← hwc]; simp
    have hB4 := hB3.trans (hb4.mono hB3.size)
    replace rA := blkB hb4 rA
    replace rB := blkB hb4 rB
    replace rT := blkB hb4 rT
    replace rR := blkB hb4 rR
    clear p0 p1 q0 q1 hb4 hB3 hmax hwc
    generalize w3.heap.size = sb at *
    obtain ⟨p0, p1, -, -⟩ := boxF rA
    obtain ⟨q0, q1, -, -⟩ := boxF rB
    gi_wp2_with fail
    have rL : (wc.alloc (.cells #[.int .i64 (a.loop.length : Int)] 3)).heap[sb + 1]? = some (.cells #[.int .i64 ((a.loop.length * 1 : Nat) : Int)] 3 (0, 0)) := by rw [← hz4, Nat.mul_one]; exact heap_alloc_new _ _
    have hb5 := bel_box (w := wc) (.cells #[.int .i64 (a.loop.length : Int)] 3)
    have hB5 := hB4.trans (hb5.mono hB4.size)
    replace rA := blkB hb5 rA
    replace rB := blkB hb5 rB
    replace rT := blkB hb5 rT
    replace rR := blkB hb5 rR
    replace rS := blkB hb5 rS
    have hz5 : (wc.alloc (.cells #[.int .i64 (a.loop.length : Int)] 3)).heap.size = sb + 2 := by simp [hz4]
    clear p0 p1 q0 q1 hb5 hB4
    generalize (wc.alloc (.cells #[.int .i64 (a.loop.length : Int)] 3)) = w5 at *
    gi_loopg [] (b.loop.length - 1) (fun gh wr => ∃ j : Nat, gh = b.loop.length - j ∧ 1 ≤ j ∧ j ≤ b.loop.length ∧ wr.heap[sb + 1]? = some (.cells #[.int .i64 ((a.loop.length * j : Nat) : Int)] 3 (0, 0)) ∧ OnlyIn [sb + 1] w5 wr)
    case atStart => exact ⟨1, by omega, by omega, by omega, rL, OnlyIn.refl _ _⟩
    case round =>
      obtain ⟨j, rfl, hj1, hj2, rL, hO⟩ := hrel
      have sA := (hO.block _ (blk_lt rA) (by simp; omega)).trans rA
      have sB := (hO.block _ (blk_lt rB) (by simp; omega)).trans rB
      obtain ⟨p0, p1, -, -⟩ := boxF sA
      obtain ⟨q0, q1, -, -⟩ := boxF sB
      obtain ⟨v, hv⟩ : ∃ v, a.loop.length * j = v := ⟨_, rfl⟩
      have hvm : v ≤ 1600 := by have := HMul.out j hj2; omega
      have hv0 : 0 < v := by rw [← hv]; exact Nat.mul_pos hla (by omega)
      have HVA : Hid (v % a.loop.length = 0) := by show _ = _; rw [← hv]; exact Nat.mul_mod_right _ _
      have HVS : Hid (a.loop.length * (j + 1) = v + a.loop.length) := by show _ = _; rw [Nat.mul_succ, hv]
      have HVE : Hid (j = b.loop.length → v % b.loop.length = 0) := fun h => by rw [← hv, h]; exact Nat.mul_mod_left _ _
      rw [hv] at rL
      clear hv
      have ht : (v : Int).tmod (b.loop.length : Int) = ((v % b.loop.length : Nat) : Int) := (Int.ofNat_tmod _ _).symm
      have ht2 : (v : Int) % (b.loop.length : Int) = ((v % b.loop.length : Nat) : Int) := (Int.natCast_emod _ _).symm
      have hzn : ¬ b.loop.length = 0 := by omega
      have l0 : wr.cell? ⟨sb + 1, 0, none⟩ = some (.int .i64 (v : Int)) := cell_of_row _ _ 0 _ _ _ rL
      have lf : wr.frozen? ⟨sb + 1, 0, none⟩ = false := frozen_of_row _ _ 0 _ _ rL
      by_cases hq : v % b.loop.length = 0
      · have HQ := Lib.hid hq
        have hq1 : (v : Int).tmod (b.loop.length : Int) = 0 := by rw [ht, hq]; rfl
        have hq2 : (v : Int) % (b.loop.length : Int) = 0 := by rw [ht2, hq]; rfl
        have hw : IntKind.i64.wrap 0 = 0 := by rfl
        clear hq ht ht2
        have hWb : Below w.heap.size w wr := hB5.trans (hO.below hB5.size (by simp; omega))
        have hwz : sb + 2 ≤ wr.heap.size := by have := hO.size; omega
        have sT := (hO.block _ (blk_lt rT) (by simp; omega)).trans rT
        have sR := (hO.block _ (blk_lt rR) (by simp; omega)).trans rR
        have sS := (hO.block _ (blk_lt rS) (by simp)).trans rS
        have m0 : wr.cell? ⟨sb, 0, none⟩ = some (.int .i64 (S : Nat)) := cell_of_row _ _ 0 _ _ _ sS
        have hz5b := hB5.size
        clear rA rB rT rR rS hO hB5 HMul HVS HVE lf hz5 hj1 hj2 hz4
        gi_upto_region 8 with (refine wpListIn_make_own _ rfl _ _ _ rfl w.heap.size 3 ii _ 1 Try.underlying22 hii hz0 hz1 .i64 .i64 ((S : Int) + v) (S + v) rfl rfl (by omega) (by rw [hz2]; omega) (by unfold maxLen; omega) hWb.size ?_; intro w6 hown6 hg6; have HO6 := Lib.hid hown6; have HB6 := Lib.hid (bel_none hg6); clear hown6 hg6)
        have hgl : wr.heap.size < w6.heap.size := (World.ownsRow.lt HO6.out _ rfl).2
        have hb7 : Below wr.heap.size wr (w6.alloc (Obj.cells #[Value.slice (some ⟨wr.heap.size, 0, none⟩) 0 (S + v)] 22)) := HB6.out.trans ((bel_box _).mono HB6.out.size)
        have rO := heap_alloc_new w6 (Obj.cells #[Value.slice (some ⟨wr.heap.size, 0, none⟩) 0 (S + v)] 22)
        have hz7 : (w6.alloc (Obj.cells #[Value.slice (some ⟨wr.heap.size, 0, none⟩) 0 (S + v)] 22)).heap.size = w6.heap.size + 1 := by simp
        have row7 : OI (w6.alloc (Obj.cells #[Value.slice (some ⟨wr.heap.size, 0, none⟩) 0 (S + v)] 22)) w.heap.size (.slice (some ⟨wr.heap.size, 0, none⟩) 0 (S + v)) [] := World.ownsRow.alloc HO6.out _
        generalize (w6.alloc (Obj.cells #[Value.slice (some ⟨wr.heap.size, 0, none⟩) 0 (S + v)] 22)) = w7 at *
        replace sA := blkB hb7 sA
        replace sB := blkB hb7 sB
        replace sT := blkB hb7 sT
        replace sR := blkB hb7 sR
        replace sS := blkB hb7 sS
        replace rL := blkB hb7 rL
        have hB7 := hWb.trans (hb7.mono hWb.size)
        clear hb7 HB6 HO6 hWb p0 p1 q0 q1 l0 m0 hq1 hq2 hw
        generalize wr.heap.size = g at *
        generalize w6.heap.size = ob at *
        obtain ⟨q0, q1, -, -⟩ := boxF sB
        gi_wp2_with fail
        refine ⟨trivial, ?_⟩
        refine (callsIn_wide.2 (reader_c _ _ _)).mono ?_
        rintro e w8 ⟨rfl, hw8⟩
        have hb8 : Below w7.heap.size w7 w8 := by rw [hw8]; exact belA (bel_box _) _
        have rX : w8.heap[ob + 1]? = some (.cells #[.slice a2 b.stem.length c2, .slice a3 b.loop.length c3] 24 (0, 0)) := by rw [hw8, ← hz7]; exact blkB (bel_box _) (heap_alloc_new _ _)
        have rP : w8.heap[ob + 1 + 1]? = some (.cells #[.int .i64 0] 3 (0, 0)) := by
          have := heap_alloc_new (w7.alloc (.cells #[.slice a2 b.stem.length c2, .slice a3 b.loop.length c3] 24)) (.cells #[.int .i64 0] 3)
          rw [World.size_alloc, hz7] at this
          rw [hw8]; exact this
        have hz8 : w8.heap.size = ob + 3 := by rw [hw8]; simp [hz7]
        have row8 : OI w8 w.heap.size (.slice (some ⟨g, 0, none⟩) 0 (S + v)) [] := row7.below hb8
        have hB8 := hB7.trans (hb8.mono hB7.size)
        replace sA := blkB hb8 sA
        replace sT := blkB hb8 sT
        replace sR := blkB hb8 sR
        replace sS := blkB hb8 sS
        replace rL := blkB hb8 rL
        replace rO := blkB hb8 rO
        clear hb8 hw8 row7 hB7 sB q0 q1
        gi_upto_region 9 with (fail)
        have hb9 := bel_box (w := w8) (Obj.cells #[Value.func (.func 53) #[] #[.pointer (some ⟨ob + 1, 0, none⟩), .pointer (some ⟨ob + 1 + 1, 0, none⟩)]] 52)
        have rF := heap_alloc_new w8 (Obj.cells #[Value.func (.func 53) #[] #[.pointer (some ⟨ob + 1, 0, none⟩), .pointer (some ⟨ob + 1 + 1, 0, none⟩)]] 52)
        have hz9 : (w8.alloc (Obj.cells #[Value.func (.func 53) #[] #[.pointer (some ⟨ob + 1, 0, none⟩), .pointer (some ⟨ob + 1 + 1, 0, none⟩)]] 52)).heap.size = ob + 4 := by simp [hz8]
        rw [hz8] at rF
        generalize (w8.alloc (Obj.cells #[Value.func (.func 53) #[] #[.pointer (some ⟨ob + 1, 0, none⟩), .pointer (some ⟨ob + 1 + 1, 0, none⟩)]] 52)) = w9 at *
        replace sA := blkB hb9 sA
        have hB9 := hB8.trans (hb9.mono hB8.size)
        obtain ⟨p, hp⟩ : ∃ p : ZBlk, p = ⟨sb, sb + 1, ob, g, ob + 1, ob + 1 + 1, ob + 3⟩ := ⟨_, rfl⟩
        have hZ9 : ZI p w (.slice aT t.length cT) a2 a3 c2 c3 S v b (zipT a b t 0) 0 0 w9 := by
          subst hp
          exact ⟨blkB hb9 sT, blkB hb9 sR, blkB hb9 sS, blkB hb9 rL, blkB hb9 rO, row8.below hb9, rfl, rF, ⟨HB.out, hB9, by show w.heap.size ≤ ob + 1 + 1; omega, by show ob + 1 ≠ ob + 1 + 1; omega, blkB hb9 rX, by rw [posL_zero]; exact blkB hb9 rP⟩⟩
        clear sT sR sS rL rO row8 rX rP hb9 hB8 rF
        obtain ⟨p0, p1, -, -⟩ := boxF sA
        gi_wp2_with fail
        refine ⟨trivial, ?_⟩
        refine (callsIn_wide.2 (letters_c _ _ _)).mono ?_
        rintro e w10 ⟨rfl, hw10⟩
        have hBs : w10.heap[ob + 4]? = some (.cells #[.slice a0 a.stem.length c0, .slice a1 a.loop.length c1] 24 (0, 0)) := by rw [hw10, ← hz9]; exact heap_alloc_new _ _
        have hZ10 : ZI p w (.slice aT t.length cT) a2 a3 c2 c3 S v b (zipT a b t 0) 0 0 w10 := hZ9.grown (row := none) (by rw [hw10]; exact World.grownBy_alloc _ _ none) (fun r e => by cases e)
        have hz10 : w10.heap.size = ob + 5 := by rw [hw10]; simp [hz9]
        have hOk : ZOk p w.heap.size w10.heap.size := by
          subst hp
          constructor <;> simp only [hz10] <;> omega
        have HP := Lib.hid hp
        clear hw10 hZ9 sA p0 p1 hB9
        have HStops := letters_stops (5 - 1) (S + v) (ob + 4) (by omega) a0 a1 c0 c1 a w w10 HA.out hZ10.bl hBs (by omega) (by omega) (by omega)
        have hws : w.heap.size ≤ w10.heap.size := hZ10.bl.size
        gi_wp2_with fail
        refine wpIn_rangeFunc_idx rfl (by omega) (gf := 48) (lb := #[.pointer (some ⟨ob + 4, 0, none⟩)]) rfl trivial (enters_of Try.func48 (by kernel_rfl) rfl)
          HStops (by omega) KpL.trans (KpL.put hws) (Below.refl _ _) (fun _ => rfl)
          (fun k W => ZRel p w (.slice aT t.length cT) a2 a3 c2 c3 S v a b t k W) (fun c _ W => ZOut p w (.slice aT t.length cT) a2 a3 c2 c3 S v a b t c W)
          (ZRel.own hws) (fun k A B h _ hg => ⟨h.1.priv hOk (by omega) hg, h.2⟩)
          (fun c => ZOut.own hws)
          ⟨hZ10, fun i hi => by omega⟩ ?a1 ?assign ?body ?stop
        case assign =>
          intro lY k W K hK
          unfold encL
          gi_wp2
          exact hK
        case body =>
          rintro lY k W ⟨hI, hin⟩ hsz hk
          have hd : 1 ≤ 5 - 1 - 1 := by omega
          obtain ⟨x, hx, hx64⟩ := HLA.out k
          obtain ⟨y, hy, hy64⟩ := HLB.out k
          have egb : p.gb = ob + 1 := by rw [HP.out]
          have egp : p.gp = ob + 1 + 1 := by rw [HP.out]
          have eob : p.ob = ob := by rw [HP.out]
          have eg : p.g = g := by rw [HP.out]
          have efb : p.fb = ob + 3 := by rw [HP.out]
          have esb : p.sb = sb := by rw [HP.out]
          have elb : p.lb = sb + 1 := by rw [HP.out]
          have HRd : Hid (Calls Try.prog 53 #[.pointer (some ⟨ob + 1, 0, none⟩), .pointer (some ⟨ob + 1 + 1, 0, none⟩)] W (RdNext w (ob + 1) (ob + 1 + 1) a2 a3 c2 c3 b k W)) := by
            have h := hI.rd
            rw [egb, egp] at h
            exact reader1_c w W _ _ _ _ _ _ b k h hlb (by omega) (by omega)
          have f0 : W.cell? ⟨ob + 3, 0, none⟩ = some (.func (.func 53) #[] #[.pointer (some ⟨ob + 1, 0, none⟩), .pointer (some ⟨ob + 1 + 1, 0, none⟩)]) := by
            have h := hI.fx
            rw [efb, egb, egp] at h
            exact cell_of_row _ _ 0 _ _ _ h
          rw [hx]
          gi_wp2_with fail
          refine ⟨trivial, ?_⟩
          refine (CallsIn.inRound lY (callsIn_wide.2 HRd.out)).mono ?_
          rintro e W2 ⟨rfl, hg2, hX2⟩
          have hI2 : ZI p w (.slice aT t.length cT) a2 a3 c2 c3 S v b (zipT a b t k) k (k + 1) W2 := hI.next hOk (by rw [egp]; exact hg2) (by rw [egb, egp]; exact hX2)
          have HO2 : Hid (OnlyIn [ob + 1 + 1] W W2) := OnlyIn.of_grown hg2 (by simp)
          have HZW : Hid (zipW a b t k = (t.getD x []).getD y 0) := by show _ = _; unfold zipW; rw [hx, hy]; rfl
          have HIN : Hid (zipIn a b t k = (decide (x < t.length) && decide (y < (t.getD x []).length))) := by show _ = _; unfold zipIn; rw [hx, hy]; rfl
          rw [hy]
          clear hx hy hg2 hX2 f0 HRd
          have t0 : W2.cell? ⟨w.heap.size + 2, 0, none⟩ = some (.slice aT t.length cT) := cell_of_row _ _ 0 _ _ _ hI2.tb
          have HI := Lib.hid hI
          have HI2 := Lib.hid hI2
          have HIn := Lib.hid hin
          have hB2 := hI2.bl
          clear hI hin
          by_cases hxt : x < t.length
          · obtain rfl := HAd.out (by omega)
            have e1 := cellB hB2 (HGet.out x hxt)
            have hrow := (HRow.out x hxt).below hB2
            obtain ⟨⟨ar, cr, br, ro, hv, gr⟩, rr⟩ := hrow
            rw [hv] at e1
            have hnr := gr.nb
            have HG5 := Lib.hid gr
            have d1 : decide (t.length ≤ x) = false := decide_eq_false (by omega)
            clear hv gr rr
            generalize t.getD x [] = row at *
            by_cases hyt : y < row.length
            · obtain rfl := HG5.out.ad (by omega)
              have e2 := HG5.out.el y hyt
              unfold ivF at e2
              have d2 : decide (row.length ≤ y) = false := decide_eq_false (by omega)
              have HOK : Hid (zipIn a b t k = true) := by show _ = _; rw [HIN.out, decide_eq_true hxt, decide_eq_true hyt]; rfl
              clear HIN
              generalize row.getD y 0 = z at *
              have o0 : W2.cell? ⟨ob, 0, none⟩ = some (.slice (some ⟨g, 0, none⟩) k (S + v)) := by have h := hI2.ox; rw [eob, eg] at h; exact cell_of_row _ _ 0 _ _ _ h
              gi_upto_region 14 with (fail)
              have hgz : g < W2.heap.size := by have h := hI2.row.blk; rw [eg] at h; exact blk_lt h.choose_spec
              have hobz : ob < W2.heap.size := World.block_lt_of_cell? W2 _ o0
              have qf : W2.frozen? ⟨ob, 0, none⟩ = false := by have h := hI2.ox; rw [eob] at h; exact frozen_of_row _ _ 0 _ _ h
              have hRow : Hid ((W2.alloc (.cells #[.int .i64 z] 3)).drew.ownsRow w.heap.size 3 1 (.slice (some ⟨g, 0, none⟩) k (S + v)) k ((zipT a b t k).map (Value.int .i64))) := by
                have h := World.ownsRow.alloc hI2.row (.cells #[.int .i64 z] 3)
                rw [hI2.len, eg] at h
                exact h
              have HNew : Hid (∀ j u, [Value.int .i64 z][j]? = some u → (W2.alloc (.cells #[.int .i64 z] 3)).drew.cell? ((⟨W2.heap.size, 0, none⟩ : Addr).add j) = some u) := cell_one_new _ _ _
              have hI2d : ZI p w (.slice (some ⟨bT, oT, none⟩) t.length cT) a2 a3 c2 c3 S v b (zipT a b t k) k (k + 1) W2.drew := hI2.keep (Below.drew (Below.refl _ _)) (fun _ _ => rfl)
              have HD := Lib.hid hI2d
              have HLen := Lib.hid (zipT_len a b t k)
              have HSucc : Hid (zipT a b t (k + 1) = zipT a b t k ++ [z]) := by show _ = _; rw [zipT_succ, HZW.out]
              clear hI2 hI2d hB2 HZW HG5
              gi_cut [] from 68 (fun wx => ZPushed p w (.slice (some ⟨bT, oT, none⟩) t.length cT) a2 a3 c2 c3 S v b (zipT a b t (k + 1)) (k + 1) W2.drew wx)
              case first =>
                refine region_two (vi := .int .i64 (x : Int)) (vj := .int .i64 (y : Int)) hmx 2 5 rfl rfl [[0, 1, 3, 4, 6, 7, 8, 9, 10], [1, 0, 3, 4, 6, 7, 8, 9, 10], [1, 3, 0, 4, 6, 7, 8, 9, 10], [1, 3, 4, 0, 6, 7, 8, 9, 10], [1, 3, 4, 6, 0, 7, 8, 9, 10], [1, 3, 4, 6, 7, 0, 8, 9, 10], [1, 3, 4, 6, 7, 8, 0, 9, 10]] (by kernel_rfl) (fun _ _ _ h => h) (fun _ _ _ h => h) ⟨.inl ⟨rfl, fun _ => rfl⟩, fun _ => rfl⟩ ⟨.inl ⟨rfl, fun _ => rfl⟩, fun _ => rfl⟩ ?_
                intro is his
                simp only [List.mem_cons, List.not_mem_nil, or_false] at his
                rcases his with rfl | rfl | rfl | rfl | rfl | rfl | rfl
                all_goals
                  simp only [opsOf, List.filterMap_cons, List.filterMap_nil, List.getElem?_toArray, List.getElem?_cons_zero, List.getElem?_cons_succ]
                all_goals
                    gi_upto_region 15 with (refine wpListIn_append_fits _ rfl _ _ _ rfl w.heap.size 3 ii 1 Try.underlying22 hii hz1 g k (S + v) _ rfl hRow.out ⟨W2.heap.size, 0, none⟩ 1 1 [.int .i64 z] rfl rfl HNew.out (by simp [Value.oneCell']) (by omega) ?_; intro w6 hown6 hg6; have HP6 := Lib.hid (HD.out.push hOk z (show OI w6 w.heap.size (.slice (some ⟨p.g, 0, none⟩) (k + 1) (S + v)) (zipT a b t k ++ [z]) by rw [eg]; unfold OI; rw [List.length_append, HLen.out]; simpa using hown6) (by rw [eg]; exact hg6)); have o0 : w6.cell? ⟨ob, 0, none⟩ = some (.slice (some ⟨g, 0, none⟩) k (S + v)) := (hg6.cell_far ⟨ob, 0, none⟩ (by simp; omega) (by simp; omega)).trans (cellB ((bel_box _).drew) o0); have qf : w6.frozen? ⟨ob, 0, none⟩ = false := (hg6.frozen_far ⟨ob, 0, none⟩ (by simp; omega) (by simp; omega)).trans ((bel_box _).drew.frozen (p := ⟨ob, 0, none⟩) hobz |>.trans qf); clear hown6 hg6)
                    gi_meet
                    case rel => exact (by have h := HP6.out; rw [eob, eg, ← HSucc.out] at h; exact ⟨h.1, by rw [eob, eg]; exact h.2⟩)
              case rest =>
                obtain ⟨hP, hO⟩ := hcut
                have c0 : wc.cell? ⟨ob, 0, none⟩ = some (.slice (some ⟨g, 0, none⟩) (k + 1) (S + v)) := by have h := hP.ox; rw [eob, eg] at h; exact cell_of_row _ _ 0 _ _ _ h
                have c1' : wc.cell? ⟨sb, 0, none⟩ = some (.int .i64 (S : Nat)) := by have h := hP.sx; rw [esb] at h; exact cell_of_row _ _ 0 _ _ _ h
                have c2' : wc.cell? ⟨sb + 1, 0, none⟩ = some (.int .i64 (v : Nat)) := by have h := hP.lx; rw [elb] at h; exact cell_of_row _ _ 0 _ _ _ h
                have hOn := round_only (by rw [egp]; exact HO2.out) hO rfl
                have HK := Lib.hid (hOn.keepsFrom (B := w10.heap.size) (fun i hi => HI.out.lts i (by simp at hi ⊢; omega)))
                have HKp := Lib.hid (hOn.kpL (n₀ := w.heap.size) (z := w10.heap.size + 2) HI.out.bl.size (by have := hOk.s0; have := hOk.s1; have := hOk.s2; have := hOk.s3; have := hOk.s4; have := hOk.s5; have := hOk.s6; have := hOk.s7; simp; omega) (by omega))
                have HP2 := Lib.hid hP
                have HIn2 : Hid (∀ i, i < k + 1 → zipIn a b t i = true) := fun i hi => by
                  rcases Nat.lt_or_ge i k with h | h
                  · exact HIn.out i h
                  · obtain rfl : i = k := by omega
                    exact HOK.out
                clear hP hO hOn HIn HOK HO2 o0 t0 e1 e2 HD hRow HNew
                by_cases hkn : k + 1 = S + v
                · have hq : (((k : Nat) : Int) + 1 == (S : Int) + v) = true := by simp; omega
                  have HKN := Lib.hid hkn
                  clear hkn
                  gi_wp2
                  exact ⟨HK.out, .inl ⟨rfl, by rw [← HKN.out]; exact ⟨by have h := HP2.out; exact h, HIn2.out⟩⟩⟩
                · have hq : (((k : Nat) : Int) + 1 == (S : Int) + v) = false := by simp; omega
                  have hkn2 : k + 1 < S + v := by omega
                  clear hkn
                  gi_wp2
                  exact ⟨HK.out, HKp.out, hkn2, HP2.out, HIn2.out⟩
            · have d2 : decide (row.length ≤ y) = true := decide_eq_true (by omega)
              have HFail : Hid (zipIn a b t k = false) := by show _ = _; rw [HIN.out, decide_eq_true hxt, decide_eq_false hyt]; rfl
              have hR := HI2.out.rs
              obtain ⟨x0, x1, y0, y1⟩ := boxF hR
              have HRS := Lib.hid hR
              have HF2 : Hid (OnlyIn [ob + 1 + 1, w.heap.size + 3] W ((W2.setCell ⟨w.heap.size + 3, 0, none⟩ (.slice none 0 0)).setCell ⟨w.heap.size + 3, 1, none⟩ (.slice none 0 0))) := ((HO2.out.mono (by simp)).trans (OnlyIn.set _ 0 _ (by simp))).trans (OnlyIn.set _ 1 _ (by simp))
              have HK := Lib.hid (HF2.out.keepsFrom (B := w10.heap.size) (fun i hi => HI.out.lts i (by simp at hi ⊢; omega)))
              have HBL := Lib.hid (below_two (a := .slice none 0 0) (b := .slice none 0 0) HI2.out.bl (show w.heap.size ≤ w.heap.size + 3 by omega))
              clear hR hI2 hB2
              gi_wp2
              exact ⟨HK.out, .inr ⟨rfl, HBL.out, two_set HRS.out, k, hk, HFail.out⟩⟩
          · have d1 : decide (t.length ≤ x) = true := decide_eq_true (by omega)
            have HFail : Hid (zipIn a b t k = false) := by show _ = _; rw [HIN.out, decide_eq_false hxt]; rfl
            have hR := HI2.out.rs
            obtain ⟨x0, x1, y0, y1⟩ := boxF hR
            have HRS := Lib.hid hR
            have HF2 : Hid (OnlyIn [ob + 1 + 1, w.heap.size + 3] W ((W2.setCell ⟨w.heap.size + 3, 0, none⟩ (.slice none 0 0)).setCell ⟨w.heap.size + 3, 1, none⟩ (.slice none 0 0))) := ((HO2.out.mono (by simp)).trans (OnlyIn.set _ 0 _ (by simp))).trans (OnlyIn.set _ 1 _ (by simp))
            have HK := Lib.hid (HF2.out.keepsFrom (B := w10.heap.size) (fun i hi => HI.out.lts i (by simp at hi ⊢; omega)))
            have HBL := Lib.hid (below_two (a := .slice none 0 0) (b := .slice none 0 0) HI2.out.bl (show w.heap.size ≤ w.heap.size + 3 by omega))
            clear hR hI2 hB2
            gi_wp2
            exact ⟨HK.out, .inr ⟨rfl, HBL.out, two_set HRS.out, k, hk, HFail.out⟩⟩
        case stop =>
          rintro D c k W hD hI hK
          rcases hI with ⟨rfl, hZ, hin⟩ | ⟨rfl, hBW, hR, i, hi, hbad⟩
          · have eob : p.ob = ob := by rw [HP.out]
            have eg : p.g = g := by rw [HP.out]
            have esb : p.sb = sb := by rw [HP.out]
            have o0 : W.cell? ⟨ob, 0, none⟩ = some (.slice (some ⟨g, 0, none⟩) (S + v) (S + v)) := by have h := hZ.ox; rw [eob, eg] at h; exact cell_of_row _ _ 0 _ _ _ h
            have m0 : W.cell? ⟨sb, 0, none⟩ = some (.int .i64 (S : Nat)) := by have h := hZ.sx; rw [esb] at h; exact cell_of_row _ _ 0 _ _ _ h
            have HRS := Lib.hid hZ.rs
            have hBW := hZ.bl
            have hlen := zipT_len a b t (S + v)
            have HAllE : Hid (belB 64 (zipT a b t (S + v)) = zipAll a b t v) := by
              have h := zip_letters (a := a) (b := b) (t := t) (n := v) (by rw [HSS.out]; exact hin)
              rwa [HSS.out] at h
            have hrowI : IsInts W (.slice (some ⟨g, 0, none⟩) (S + v) (S + v)) (zipT a b t (S + v)) := by
              have h := hZ.row
              rw [eg] at h
              refine h.is (by rw [hlen]; unfold maxN; omega) fun z hz => ?_
              obtain ⟨i, hi, rfl⟩ := List.mem_map.1 hz
              exact HZ64.out i
            have HBl := Lib.hid (below_c W _ _ 64 hrowI)
            have hSl : S ≤ (zipT a b t (S + v)).length := by rw [hlen]; omega
            have hSl2 : S < (zipT a b t (S + v)).length := by rw [hlen]; omega
            obtain ⟨⟨ao, cq', bq, oq, hv', gq'⟩, rq⟩ := hrowI
            rw [hlen] at hv'
            obtain ⟨rfl, rfl⟩ : some ⟨g, 0, none⟩ = ao ∧ S + v = cq' := by simpa using hv'
            have hHead := IsInts.take gq' rq S hSl
            have hTail := IsInts.drop gq' rq S hSl2
            have had := gq'.ad (by rw [hlen]; omega)
            obtain ⟨rfl, rfl⟩ : g = bq ∧ 0 = oq := by simpa using had
            rw [hlen] at hTail
            rw [show S + v - S = v by omega, Nat.zero_add] at hTail
            have HLs : Hid (∀ W', Below W.heap.size W W' → IsLs W' (.agg #[.slice (some ⟨g, 0, none⟩) S (S + v), .slice (some ⟨g, S, none⟩) v v]) (zipN a b t v)) := fun W' hW' => by
              have h := zipT_split a b t v
              rw [HSS.out] at h
              rw [← h]
              exact IsLs.mk (hHead.below hW') (hTail.below hW')
            have HSh : Hid (∀ W' x, IsLs W' x (zipN a b t v) → Calls Try.prog 43 #[x] W' (NewT (shortL (zipN a b t v)) W')) := fun W' x h => (short_c W' x _ h (by simpa [zipN] using hv0) (by simp [zipN, HSS.out]; omega) (by simp [zipN]; omega)).mono fun e w' h => h.t
            have HY2 : Hid (zipAll a b t v = true → r = shortL (zipN a b t v)) := fun h => HYes.out v hv0 HVA.out HQ.out h
            have HN2 : Hid (zipAll a b t v = false → r = zeroL) := fun h => HNo.out v hv0 HVA.out HQ.out h
            rw [HAllE.out] at HBl
            clear hZ hin hHead hTail had gq' rq hv' hlen hSl hSl2 HAllE HYes HNo HLA HLB HRow HGet HAd HA HB HZ64
            generalize zipAll a b t v = q at *
            generalize shortL (zipN a b t v) = sl at *
            gi_wp2_with fail
            refine ⟨trivial, ?_⟩
            refine (callsIn_wide.2 HBl.out).mono ?_
            rintro e W' ⟨rfl, rfl⟩
            cases q with
            | false =>
              have HR0 := Lib.hid (HN2.out (by trivial))
              obtain ⟨x0, x1, y0, y1⟩ := boxF HRS.out
              have hrow := two_set (a := .slice none 0 0) (b := .slice none 0 0) HRS.out
              have hKf : ((W.setCell ⟨w.heap.size + 3, 0, none⟩ (.slice none 0 0)).setCell ⟨w.heap.size + 3, 1, none⟩ (.slice none 0 0)).heap[D]? = some (.deferred (some [])) := by
                rw [heap_setCell_other _ _ _ _ (by simp; omega), heap_setCell_other _ _ _ _ (by simp; omega)]; exact hK
              have HKf := Lib.hid hKf
              obtain ⟨cc0, cc1, -, -⟩ := boxF (put_row (o' := .deferred none) hrow hKf rfl)
              have HEnd : Hid (NewL r w (.returned (.agg #[.slice none 0 0, .slice none 0 0])) (((W.setCell ⟨w.heap.size + 3, 0, none⟩ (.slice none 0 0)).setCell ⟨w.heap.size + 3, 1, none⟩ (.slice none 0 0)).putObj D (.deferred none))) := by
                show NewL _ _ _ _
                rw [HR0.out]
                exact NewL.put (zeroEnd hBW (by omega)) hKf rfl (by omega)
              clear hrow hKf
              gi_wp2
              refine ⟨by simp, .inl ⟨_, _, rfl, run_takeDeferred HKf.out, ?_⟩⟩
              exact ⟨.agg #[.slice none 0 0, .slice none 0 0], by simp [results, Try.results28, go_sem, cc0, cc1], HEnd.out⟩
            | true =>
              have HX := Lib.hid (HY2.out (by trivial))
              have hzR := blk_lt HRS.out
              have k1 : S ≤ S + v := by omega
              have k2 : (S : Int) ≤ (S : Int) + v := by omega
              have k3 : ¬ S + v = S := by omega
              have k4 : S + v - S = v := by omega
              have k5 : ¬ v = 0 := by omega
              gi_upto_region 18 with (fail)
              refine wpIn_wide.2 ?_
              refine region_last hmx (RZ g S v sl) (fun vs => { tmps := (_ :: _ :: _ :: _ :: _ :: _ :: _ :: _ :: _ :: _ :: _ :: _ :: _ :: _ :: _ :: _ :: _ :: _ :: _ :: _ :: _ :: _ :: _ :: _ :: _ :: _ :: _ :: _ :: _ :: _ :: _ :: _ :: _ :: _ :: _ :: _ :: _ :: _ :: _ :: _ :: _ :: _ :: _ :: _ :: _ :: _ :: _ :: _ :: _ :: _ :: _ :: _ :: _ :: _ :: _ :: _ :: _ :: _ :: _ :: _ :: _ :: _ :: _ :: _ :: _ :: _ :: _ :: _ :: _ :: _ :: _ :: _ :: _ :: _ :: _ :: _ :: _ :: _ :: _ :: _ :: _ :: _ :: _ :: _ :: _ :: _ :: _ :: _ :: vs 0 :: vs 1 :: vs 2 :: vs 3 :: vs 4 :: vs 5 :: vs 6 :: vs 7 :: []).toArray, defers := _ }) (fun n => [u88, u89, u90, u91, u92, u93, u94, u95].getD n undef) 8 rfl (by kernel_rfl) (by kernel_rfl) (RZ.mono g S v sl) ?step ?last
              case step =>
                have HBel : Hid (∀ W', Below W.drew.heap.size W.drew W' → Below W.heap.size W W') := fun W' h => (Below.drew (Below.refl _ _)).trans h
                intro i o hi ho
                match i, hi, ho with
                | 0, hi, ho =>
                  obtain rfl := Option.some.inj ho
                  intro vs W1 K hB hD hK
                  have HK := Lib.hid hK
                  have p0 := cellB (HBel.out W1 hB) o0
                  clear hK hD ho hi
                  dsimp only
                  go_simp
                  have h := HK.out _ _ (Below.refl _ _) rfl
                  simp only [upd, Nat.reduceEqDiff, reduceIte] at h
                  exact h
                | 1, hi, ho =>
                  obtain rfl := Option.some.inj ho
                  intro vs W1 K hB hD hK
                  have HK := Lib.hid hK
                  have p0 := cellB (HBel.out W1 hB) m0
                  clear hK hD ho hi
                  dsimp only
                  go_simp
                  have h := HK.out _ _ (Below.refl _ _) rfl
                  simp only [upd, Nat.reduceEqDiff, reduceIte] at h
                  exact h
                | 2, hi, ho =>
                  obtain rfl := Option.some.inj ho
                  intro vs W1 K hB hD hK
                  have HK := Lib.hid hK
                  have e0 : vs 0 = Value.slice (some ⟨g, 0, none⟩) (S + v) (S + v) := dep_of hD 0 (by rfl)
                  have e1 : vs 1 = Value.int .i64 (S : Int) := dep_of hD 1 (by rfl)
                  clear hK hD ho hi
                  dsimp only
                  go_simp
                  have h := HK.out _ _ (Below.refl _ _) rfl
                  simp only [upd, Nat.reduceEqDiff, reduceIte, e0, e1] at h
                  exact h
                | 3, hi, ho =>
                  obtain rfl := Option.some.inj ho
                  intro vs W1 K hB hD hK
                  have HK := Lib.hid hK
                  have p0 := cellB (HBel.out W1 hB) o0
                  clear hK hD ho hi
                  dsimp only
                  go_simp
                  have h := HK.out _ _ (Below.refl _ _) rfl
                  simp only [upd, Nat.reduceEqDiff, reduceIte] at h
                  exact h
                | 4, hi, ho =>
                  obtain rfl := Option.some.inj ho
                  intro vs W1 K hB hD hK
                  have HK := Lib.hid hK
                  have p0 := cellB (HBel.out W1 hB) m0
                  clear hK hD ho hi
                  dsimp only
                  go_simp
                  have h := HK.out _ _ (Below.refl _ _) rfl
                  simp only [upd, Nat.reduceEqDiff, reduceIte] at h
                  exact h
                | 5, hi, ho =>
                  obtain rfl := Option.some.inj ho
                  intro vs W1 K hB hD hK
                  have HK := Lib.hid hK
                  have e3 : vs 3 = Value.slice (some ⟨g, 0, none⟩) (S + v) (S + v) := dep_of hD 3 (by rfl)
                  have e4 : vs 4 = Value.int .i64 (S : Int) := dep_of hD 4 (by rfl)
                  clear hK hD ho hi
                  dsimp only
                  go_simp
                  have h := HK.out _ _ (Below.refl _ _) rfl
                  simp only [upd, Nat.reduceEqDiff, reduceIte, e3, e4] at h
                  exact h
                | 6, hi, ho =>
                  obtain rfl := Option.some.inj ho
                  intro vs W1 K hB hD hK
                  have HK := Lib.hid hK
                  have e2 : vs 2 = Value.slice (some ⟨g, 0, none⟩) S (S + v) := dep_of hD 2 (by rfl)
                  have e5 : vs 5 = Value.slice (some ⟨g, S, none⟩) v v := dep_of hD 5 (by rfl)
                  clear hK hD ho hi
                  dsimp only
                  go_simp
                  have h := HK.out _ _ (Below.refl _ _) rfl
                  simp only [upd, Nat.reduceEqDiff, reduceIte, e2, e5] at h
                  exact h
                | 7, hi, ho =>
                  obtain rfl := Option.some.inj ho
                  intro vs W1 K hB hD hK
                  have HK := Lib.hid hK
                  have e6 : vs 6 = Value.agg #[.slice (some ⟨g, 0, none⟩) S (S + v), .slice (some ⟨g, S, none⟩) v v] := dep_of hD 6 (by rfl)
                  have HC1 := Lib.hid (HLs.out W1 (HBel.out W1 hB))
                  clear hK hD ho hi
                  dsimp only
                  go_simp
                  refine ((HSh.out _ _ HC1.out).mono fun e w' h => NewT.give h).mono ?_
                  rintro e W' ⟨x, rfl, hx, hb⟩
                  have h := HK.out _ _ hb hx
                  simp only [upd, Nat.reduceEqDiff, reduceIte, e6] at h
                  exact h
                | n + 8, hi, ho => omega
              case last =>
                intro o ho
                obtain rfl := Option.some.inj ho
                intro vs w5 K hB hall hK
                obtain ⟨a5, k5, a6, k6, e7, hLx⟩ : LV sl (vs 7) w5 := hall 7 (by omega)
                have HK2 := Lib.hid hK
                clear hall hK ho
                have z5 : Below W.heap.size W w5 := (Below.drew (Below.refl _ _)).trans hB
                have HC := Lib.hid (blkB z5 HRS.out)
                obtain ⟨x0, x1, y0, y1⟩ := boxF HC.out
                obtain ⟨v5, v6, hv56, i5, i6⟩ := hLx
                obtain ⟨rfl, rfl⟩ : Value.slice a5 sl.stem.length k5 = v5 ∧ Value.slice a6 sl.loop.length k6 = v6 := by simpa using hv56
                have I5 := Lib.hid i5
                have I6 := Lib.hid i6
                clear hv56 i5 i6 hB
                dsimp only
                go_simp
                refine HK2.out _ _ ?_
                have hB5 := hBW.trans (z5.mono hBW.size)
                have hrow := two_set (a := .slice a5 sl.stem.length k5) (b := .slice a6 sl.loop.length k6) HC.out
                have hKf : ((w5.setCell ⟨w.heap.size + 3, 0, none⟩ (.slice a5 sl.stem.length k5)).setCell ⟨w.heap.size + 3, 1, none⟩ (.slice a6 sl.loop.length k6)).heap[D]? = some (.deferred (some [])) := by
                  rw [heap_setCell_other _ _ _ _ (by simp; omega), heap_setCell_other _ _ _ _ (by simp; omega)]; exact blkB z5 hK
                have HKf := Lib.hid hKf
                obtain ⟨cc0, cc1, -, -⟩ := boxF (put_row (o' := .deferred none) hrow hKf rfl)
                have HEnd : Hid (NewL r w (.returned (.agg #[.slice a5 sl.stem.length k5, .slice a6 sl.loop.length k6])) (((w5.setCell ⟨w.heap.size + 3, 0, none⟩ (.slice a5 sl.stem.length k5)).setCell ⟨w.heap.size + 3, 1, none⟩ (.slice a6 sl.loop.length k6)).putObj D (.deferred none))) := by
                  show NewL _ _ _ _
                  rw [HX.out]
                  exact NewL.put (lsEnd HC.out I5.out I6.out hB5 (by omega)) hKf rfl (by omega)
                clear hrow hKf
                gi_wp2
                refine ⟨by simp, .inl ⟨_, _, rfl, run_takeDeferred HKf.out, ?_⟩⟩
                exact ⟨.agg #[.slice a5 sl.stem.length k5, .slice a6 sl.loop.length k6], by simp [results, Try.results28, go_sem, cc0, cc1], HEnd.out⟩
          · have HR0 : Hid (r = zeroL) := HNo.out v hv0 HVA.out HQ.out (by
              refine zip_bad (i := i) (by rw [HSS.out]; exact hi) ?_
              rw [zipOk_in, hbad]; rfl)
            have HP1 := put_row (o' := .deferred none) hR hK rfl
            obtain ⟨cc0, cc1, -, -⟩ := boxF HP1
            have HEnd : Hid (NewL r w (.returned (.agg #[.slice none 0 0, .slice none 0 0])) (W.putObj D (.deferred none))) := by
              show NewL _ _ _ _
              rw [HR0.out]
              exact NewL.put ⟨_, rfl, ⟨_, _, rfl, ints_nil _, ints_nil _⟩, hBW⟩ hK rfl (by omega)
            clear hR hBW HP1 hbad
            gi_wp2
            refine ⟨by simp, .inl ⟨_, _, rfl, run_takeDeferred hK, ?_⟩⟩
            exact ⟨.agg #[.slice none 0 0, .slice none 0 0], by simp [results, Try.results28, go_sem, cc0, cc1], HEnd.out⟩
      · have hjl : j < b.loop.length := by
          rcases Nat.lt_or_ge j b.loop.length with h | h
          · exact h
          · exact absurd (HVE.out (by omega)) hq
        have hwq : IntKind.i64.wrap ((v % b.loop.length : Nat) : Int) = ((v % b.loop.length : Nat) : Int) := by
          have := Nat.mod_lt v hlb
          exact IntWalk.i64_in _ ⟨by omega, by omega⟩
        generalize v % b.loop.length = q at *
        have hqn : ((q : Int) != 0) = true := by simp; omega
        gi_wp2
        go_roundg (b.loop.length - (j + 1))
        case rel => exact ⟨j + 1, rfl, by omega, by omega, by rw [HVS.out]; exact set_one rL, hO.trans (OnlyIn.set _ 0 _ (by simp))⟩
        case measure => omega


theorem Zip_c (w : World) (va vb vt : Value) (a b : Ls) (t : List (List Int)) (ha : IsLs w va a) (hb : IsLs w vb b) (ht : IsRows w vt t) :
    Calls Try.prog 28 #[va, vb, vt] w (NewL (zipI a b t) w) := by
  by_cases fa : formB a = true
  · by_cases fb : formB b = true
    · exact Zip_yes w va vb vt a b t ha hb ht fa fb
    · exact Zip_no w va vb vt a b t ha hb ht (.inr (by rwa [Bool.not_eq_true] at fb))
  · exact Zip_no w va vb vt a b t ha hb ht (.inl (by rwa [Bool.not_eq_true] at fa))

end Go.Proofs.Ytgjpdnaeldpdeaa
