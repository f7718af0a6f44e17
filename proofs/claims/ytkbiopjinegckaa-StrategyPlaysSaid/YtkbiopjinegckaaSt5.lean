/- What the reference's Valid of strategies computes. -/
import Derived.Test.YtkbiopjinegckaaSt4
import Derived.Test.YtkbiopjinegckaaStCb
namespace Go.Proofs.Ytkbiopjinegckaa
open Go.RowKit

def RV7a (_z _b0 _o0 R _c0 : Nat) (_a1 : Option Addr) (_n1 _c1 _b2 _o2 _c2 bT oT cT _bS _oS _cS k : Nat) (x : Int) (_y : Nat) (ix : Nat) (u : Value) (_ : World) : Prop :=
  match ix with
  | 0 => u = .bool false
  | 1 => u = .bool true
  | 2 => u = .bool true
  | 3 => u = .slice (some ⟨bT, oT, none⟩) R cT
  | 4 => u = .int .i64 k
  | 5 => u = .pointer (some ⟨bT, oT + k, none⟩)
  | 6 => u = .int .i64 x
  | 7 => u = .bool true
  | 8 => u = .bool true
  | 9 => u = .bool true
  | 10 => u = undef
  | 11 => u = undef
  | 12 => u = undef
  | 13 => u = undef
  | 14 => u = undef
  | 15 => u = undef
  | 16 => u = undef
  | 17 => u = undef
  | 18 => u = undef
  | 19 => u = undef
  | 20 => u = undef
  | 21 => u = undef
  | 22 => u = undef
  | 23 => u = undef
  | 24 => u = undef
  | 25 => u = undef
  | 26 => u = undef
  | 27 => u = undef
  | 28 => u = undef
  | 29 => u = undef
  | 30 => u = undef
  | 31 => u = .bool true
  | _ => True

def RV7b (_z _b0 _o0 R _c0 : Nat) (_a1 : Option Addr) (_n1 _c1 _b2 _o2 _c2 bT oT cT _bS _oS _cS k : Nat) (x : Int) (_y : Nat) (ix : Nat) (u : Value) (_ : World) : Prop :=
  match ix with
  | 0 => u = .bool false
  | 1 => u = .bool true
  | 2 => u = .bool true
  | 3 => u = .slice (some ⟨bT, oT, none⟩) R cT
  | 4 => u = .int .i64 k
  | 5 => u = .pointer (some ⟨bT, oT + k, none⟩)
  | 6 => u = .int .i64 x
  | 7 => u = .bool false
  | 8 => u = .bool false
  | 9 => u = .bool false
  | 10 => u = .bool false
  | 11 => u = .bool false
  | 12 => u = undef
  | 13 => u = undef
  | 14 => u = undef
  | 15 => u = undef
  | 16 => u = undef
  | 17 => u = undef
  | 18 => u = undef
  | 19 => u = undef
  | 20 => u = undef
  | 21 => u = undef
  | 22 => u = undef
  | 23 => u = undef
  | 24 => u = undef
  | 25 => u = undef
  | 26 => u = undef
  | 27 => u = undef
  | 28 => u = undef
  | 29 => u = undef
  | 30 => u = .bool false
  | 31 => u = .bool false
  | _ => True

def RV7c (_z b0 o0 R c0 : Nat) (a1 : Option Addr) (n1 c1 b2 o2 c2 bT oT cT _bS _oS _cS k : Nat) (x : Int) (_y : Nat) (ix : Nat) (u : Value) (_ : World) : Prop :=
  match ix with
  | 0 => u = .bool true
  | 1 => u = .bool false
  | 2 => u = .bool false
  | 3 => u = undef
  | 4 => u = undef
  | 5 => u = undef
  | 6 => u = undef
  | 7 => u = undef
  | 8 => u = .bool false
  | 9 => u = .bool false
  | 10 => u = .bool true
  | 11 => u = .bool true
  | 12 => u = .agg #[.slice (some ⟨b0, o0, none⟩) R c0, .slice a1 n1 c1, .slice (some ⟨b2, o2, none⟩) R c2]
  | 13 => u = .int .i64 k
  | 14 => u = .slice (some ⟨bT, oT, none⟩) R cT
  | 15 => u = .int .i64 k
  | 16 => u = .pointer (some ⟨bT, oT + k, none⟩)
  | 17 => u = .int .i64 x
  | 18 => u = .bool false
  | 19 => u = .bool true
  | 20 => u = .bool true
  | 21 => u = undef
  | 22 => u = undef
  | 23 => u = undef
  | 24 => u = undef
  | 25 => u = undef
  | 26 => u = undef
  | 27 => u = undef
  | 28 => u = undef
  | 29 => u = .bool true
  | 30 => u = .bool true
  | 31 => u = .bool true
  | _ => True

def RV7d (_z b0 o0 R c0 : Nat) (a1 : Option Addr) (n1 c1 b2 o2 c2 bT oT cT bS oS cS k : Nat) (x : Int) (y : Nat) (ix : Nat) (u : Value) (_ : World) : Prop :=
  match ix with
  | 0 => u = .bool true
  | 1 => u = .bool false
  | 2 => u = .bool false
  | 3 => u = undef
  | 4 => u = undef
  | 5 => u = undef
  | 6 => u = undef
  | 7 => u = undef
  | 8 => u = .bool false
  | 9 => u = .bool false
  | 10 => u = .bool true
  | 11 => u = .bool true
  | 12 => u = .agg #[.slice (some ⟨b0, o0, none⟩) R c0, .slice a1 n1 c1, .slice (some ⟨b2, o2, none⟩) R c2]
  | 13 => u = .int .i64 k
  | 14 => u = .slice (some ⟨bT, oT, none⟩) R cT
  | 15 => u = .int .i64 k
  | 16 => u = .pointer (some ⟨bT, oT + k, none⟩)
  | 17 => u = .int .i64 x
  | 18 => u = .bool true
  | 19 => u = .bool false
  | 20 => u = .bool false
  | 21 => u = .slice (some ⟨bS, oS, none⟩) R cS
  | 22 => u = .slice (some ⟨bT, oT, none⟩) R cT
  | 23 => u = .int .i64 k
  | 24 => u = .pointer (some ⟨bT, oT + k, none⟩)
  | 25 => u = .int .i64 x
  | 26 => u = .pointer (some ⟨bS, oS + y, none⟩)
  | 27 => u = .bool false
  | 28 => u = .bool true
  | 29 => u = .bool true
  | 30 => u = .bool true
  | 31 => u = .bool true
  | _ => True

def RV7e (_z b0 o0 R c0 : Nat) (a1 : Option Addr) (n1 c1 b2 o2 c2 bT oT cT bS oS cS k : Nat) (x : Int) (y : Nat) (ix : Nat) (u : Value) (_ : World) : Prop :=
  match ix with
  | 0 => u = .bool true
  | 1 => u = .bool false
  | 2 => u = .bool false
  | 3 => u = undef
  | 4 => u = undef
  | 5 => u = undef
  | 6 => u = undef
  | 7 => u = undef
  | 8 => u = .bool false
  | 9 => u = .bool false
  | 10 => u = .bool true
  | 11 => u = .bool true
  | 12 => u = .agg #[.slice (some ⟨b0, o0, none⟩) R c0, .slice a1 n1 c1, .slice (some ⟨b2, o2, none⟩) R c2]
  | 13 => u = .int .i64 k
  | 14 => u = .slice (some ⟨bT, oT, none⟩) R cT
  | 15 => u = .int .i64 k
  | 16 => u = .pointer (some ⟨bT, oT + k, none⟩)
  | 17 => u = .int .i64 x
  | 18 => u = .bool true
  | 19 => u = .bool false
  | 20 => u = .bool false
  | 21 => u = .slice (some ⟨bS, oS, none⟩) R cS
  | 22 => u = .slice (some ⟨bT, oT, none⟩) R cT
  | 23 => u = .int .i64 k
  | 24 => u = .pointer (some ⟨bT, oT + k, none⟩)
  | 25 => u = .int .i64 x
  | 26 => u = .pointer (some ⟨bS, oS + y, none⟩)
  | 27 => u = .bool true
  | 28 => u = .bool false
  | 29 => u = .bool false
  | 30 => u = .bool false
  | 31 => u = .bool false
  | _ => True

theorem keeps_out {g : Gm} {p : Int} {set : List Bool} {s : List Int} {k : Nat} (hq : set.getD k false = false) : keepsB g p set s k = (s.getD k 0 == -1) := by unfold keepsB; rw [hq]; rfl
theorem keeps_own {g : Gm} {p : Int} {set : List Bool} {s : List Int} {k : Nat} (hq : set.getD k false = true) (ho : (g.owner.getD k 0 == p) = true) : keepsB g p set s k = (decide (s.getD k 0 ∈ g.succ.getD k []) && set.getD (s.getD k 0).toNat false) := by
  unfold keepsB
  rw [hq, if_pos rfl, if_pos (by simpa using ho)]
theorem keeps_oth {g : Gm} {p : Int} {set : List Bool} {s : List Int} {k : Nat} (hq : set.getD k false = true) (ho : (g.owner.getD k 0 == p) = false) : keepsB g p set s k = (s.getD k 0 == -1 && (g.succ.getD k []).all (fun x => set.getD x.toNat false)) := by
  unfold keepsB
  rw [hq, if_pos rfl, if_neg (by simpa using ho)]
theorem take_all_succ (f : Int → Bool) (l : List Int) (j : Nat) (h : j < l.length) : (l.take (j + 1)).all f = ((l.take j).all f && f (l.getD j 0)) := by
  rw [List.take_succ_eq_append_getElem h, List.all_append, getD_lt _ _ _ h]; simp
theorem all_false_at (f : Int → Bool) (l : List Int) (j : Nat) (h : j < l.length) (hf : f (l.getD j 0) = false) : l.all f = false := by
  rw [List.all_eq_false]; exact ⟨l.getD j 0, by rw [getD_lt _ _ _ h]; exact List.getElem_mem h, by rw [hf]; decide⟩

set_option maxRecDepth 100000 in
set_option maxHeartbeats 60000000 in
theorem RStValid_1 (w : World) (vg vs vt : Value) (g : Gm) (p : Int) (set : List Bool) (s : List Int) (hg : IsGame w vg g) (hs : IsBools w vs set) (ht : IsInts w vt s) (hp : ((p != 0) = false) ∨ ((p != 0) = true ∧ (p != 1) = false)) :
    Calls Try.prog 14 #[vg, .int .i64 p, vs, vt] w (Calm (.bool (stB g p set s)) w) := by
  have hp01 : p = 0 ∨ p = 1 := by rcases hp with h | ⟨-, h⟩ <;> simp at h <;> omega
  have HV : Hid (∀ W, Below w.heap.size w W → Calls Try.prog 33 #[vg] W (Calm (.bool (validB g)) W)) := fun W hW => RValid_c W _ g (hg.below hW)
  have HFW : Hid (∀ W, Below w.heap.size w W → ∀ k x, k < g.succ.length → Calls Try.prog 34 #[vg, .int .i64 ((k : Nat) : Int), .int .i64 x] W (Calm (.bool (decide (x ∈ g.succ.getD k []))) W)) := fun W hW k x hk => follows_c W _ g k x (hg.below hW) hk
  have HG := Lib.hid hg
  obtain ⟨v0, v1, v2, rfl, i0, i1, i2⟩ := hg
  obtain ⟨a0, c0, rfl⟩ := i0.shape
  obtain ⟨a1, c1, rfl⟩ := i1.shape
  obtain ⟨a2, c2, b2, o2, V, rfl, hd2, m2, dd2⟩ := i2.data
  obtain ⟨b0, o0, hd0, m0, dd0⟩ := i0.data
  obtain ⟨aS, cS, rfl⟩ := hs.shape
  obtain ⟨aT, cT, rfl⟩ := ht.shape
  obtain ⟨bS, oS, hdS, mS, ddS⟩ := hs.data
  obtain ⟨bT, oT, hdT, mT, ddT⟩ := ht.data
  have HX64 : Hid (∀ x ∈ s, I64 x) := ht.2
  clear i0 i1 i2 hs ht
  cases hv : validB g
  · go_enter Try.func14, Try.ntmps14
    go_wp2_with fail
    refine (HV.out _ (by repeat (first | exact Below.refl _ _ | assumption | (refine belA ?_ _) | (refine belD ?_ _) | (refine Below.drew ?_)))).mono ?_
    rintro e w1 ⟨rfl, hb1⟩
    rw [hv]
    have hB1 := (Boxed.start hb1).bl
    go_wp2
    go_ret
    exact ⟨ret_bool (stB_false (.inr (.inl hv))).symm, hB1⟩
  cases h1 : ((set.length : Int) != g.owner.length)
  case true =>
    rcases hp with hp0 | ⟨hp0, hp1⟩
    all_goals
      go_enter Try.func14, Try.ntmps14
      go_wp2_with fail
      refine (HV.out _ (by repeat (first | exact Below.refl _ _ | assumption | (refine belA ?_ _) | (refine belD ?_ _) | (refine Below.drew ?_)))).mono ?_
      rintro e w1 ⟨rfl, hb1⟩
      rw [hv]
      have hbx := Boxed.start hb1
      have d0 := hbx.cell 0 rfl
      go_wp2
      go_ret
      exact ⟨ret_bool (stB_false (.inr (.inr (.inl (by have := h1; simp at this; omega))))).symm, hbx.bl⟩
  cases h2 : ((s.length : Int) != g.owner.length)
  case true =>
    rcases hp with hp0 | ⟨hp0, hp1⟩
    all_goals
      go_enter Try.func14, Try.ntmps14
      go_wp2_with fail
      refine (HV.out _ (by repeat (first | exact Below.refl _ _ | assumption | (refine belA ?_ _) | (refine belD ?_ _) | (refine Below.drew ?_)))).mono ?_
      rintro e w1 ⟨rfl, hb1⟩
      rw [hv]
      have hbx := Boxed.start hb1
      have d0 := hbx.cell 0 rfl
      go_wp2
      go_ret
      exact ⟨ret_bool (stB_false (.inr (.inr (.inr (by have := h2; simp at this; omega))))).symm, hbx.bl⟩
  have e1 : set.length = g.owner.length := by have := h1; simp at this; omega
  have e2 : s.length = g.owner.length := by have := h2; simp at this; omega
  obtain ⟨l1, l2, l3⟩ := valid_lens hv
  have HF : Hid (stB g p set s = (List.range set.length).all (keepsB g p set s)) := stB_at hp01 hv e1 e2
  have HVA : Hid (∀ i, i < g.owner.length → ∀ x ∈ g.succ.getD i [], 0 ≤ x ∧ x < g.owner.length) := fun i hi => (valid_at hv i hi).2.2.2
  have HNE : Hid (∀ i, i < g.owner.length → g.succ.getD i [] ≠ []) := fun i hi => (valid_at hv i hi).2.2.1
  have HSU : Hid (∀ k, k < g.owner.length → ∀ W, Below w.heap.size w W → IsInts W (V k) (g.succ.getD k [])) := fun k hk W hW => (dd2 k (by omega)).2.below hW
  have hC0 : ∀ k, k < g.owner.length → ∀ W, Below w.heap.size w W → W.cell? ⟨b0, o0 + k, none⟩ = some (.int .i64 (g.owner.getD k 0)) := fun k hk W hW => cellB hW (dd0 k hk)
  have hC2 : ∀ k, k < g.owner.length → ∀ W, Below w.heap.size w W → W.cell? ⟨b2, o2 + k, none⟩ = some (V k) := fun k hk W hW => cellB hW (dd2 k (by omega)).1
  have hCS : ∀ k, k < g.owner.length → ∀ W, Below w.heap.size w W → W.cell? ⟨bS, oS + k, none⟩ = some (.bool (set.getD k false)) := fun k hk W hW => cellB hW (ddS k (by omega))
  have hCT : ∀ k, k < g.owner.length → ∀ W, Below w.heap.size w W → W.cell? ⟨bT, oT + k, none⟩ = some (.int .i64 (s.getD k 0)) := fun k hk W hW => cellB hW (ddT k (by omega))
  have H0 := Lib.hid hC0
  have H2 := Lib.hid hC2
  have HS0 := Lib.hid hCS
  have HT0 := Lib.hid hCT
  have HD : Hid (0 < g.owner.length → a0 = some ⟨b0, o0, none⟩ ∧ a2 = some ⟨b2, o2, none⟩ ∧ aS = some ⟨bS, oS, none⟩ ∧ aT = some ⟨bT, oT, none⟩) := fun h => ⟨hd0 h, hd2 (by omega), hdS (by omega), hdT (by omega)⟩
  clear hC0 hC2 hCS hCT dd0 dd2 ddS ddT hd0 hd2 hdS hdT m0 m2 mS mT
  replace HF : Hid (stB g p set s = (List.range g.owner.length).all (keepsB g p set s)) := by have := HF.out; rw [e1] at this; exact this
  have HX : Hid (∀ k, k < g.owner.length → I64 (s.getD k 0)) := fun k hk => HX64.out _ (by rw [getD_lt _ _ _ (show k < s.length by omega)]; exact List.getElem_mem _)
  have HL3 := Lib.hid l3
  rw [e1] at h1 ⊢
  rw [e2] at h2 ⊢
  rw [l3] at HV HFW ⊢
  clear HX64 e1 e2 l2 l3 HG hp01
  have hR : g.owner.length ≤ 3000 := l1
  generalize hRn : g.owner.length = R at *
  clear hRn l1
  obtain ⟨n1, hn1⟩ : ∃ n1, g.prio.length = n1 := ⟨_, rfl⟩
  rw [hn1] at HV HFW ⊢
  clear hn1
  have HV1 := Lib.hid hv
  clear hv
  have HP := Lib.hid hp
  clear hp
  go_enter Try.func14, Try.ntmps14
  go_upto_region 1 with (fail)
  go_cut [38] (fun v wx => v = .bool false ∧ Boxed w wx #[.slice a0 R c0, .slice a1 n1 c1, .slice a2 R c2])
  case first =>
    rcases HP.out with hp0 | ⟨hp0, hp1⟩
    all_goals
      go_wp2_with fail
      refine (HV.out _ (by repeat (first | exact Below.refl _ _ | assumption | (refine belA ?_ _) | (refine belD ?_ _) | (refine Below.drew ?_)))).mono ?_
      rintro e w1 ⟨rfl, hb1⟩
      rw [HV1.out]
      have hbx := Boxed.start hb1
      have d0 := hbx.cell 0 rfl
      clear hb1
      go_wp2
      go_meet
      case rel => exact ⟨rfl, hbx⟩
  case rest =>
    obtain ⟨rfl, hbx⟩ := hcut
    go_wp2
    go_loopg [8, 9] R (fun gh r i wr => ∃ k : Nat, gh = R - k ∧ i = .int .i64 k ∧ r = .bool false ∧ k ≤ R ∧ Boxed w wr #[.slice a0 R c0, .slice a1 n1 c1, .slice a2 R c2] ∧ Hid ((List.range k).all (keepsB g p set s) = true))
    case atStart => exact ⟨0, rfl, rfl, rfl, by omega, hbx, by simp [Hid]⟩
    case round =>
      obtain ⟨k, hgk, rfl, rfl, hk, hB, HE⟩ := hrel
      have HGK := Lib.hid hgk
      clear hgk hbx
      by_cases hlt : k < R
      · obtain ⟨rfl, rfl, rfl, rfl⟩ := HD.out (by omega)
        have hlI : (k : Int) < (R : Int) := by omega
        have c00 := H0.out k hlt wr hB.bl
        have c20 := H2.out k hlt wr hB.bl
        have cS0 := HS0.out k hlt wr hB.bl
        have cT0 := HT0.out k hlt wr hB.bl
        have d0 := hB.cell 0 rfl
        have d1 := hB.cell 1 rfl
        have d2 := hB.cell 2 rfl
        obtain ⟨aV, cV, hV⟩ := (HSU.out k hlt wr hB.bl).shape
        have HIV : Hid (∀ W, Below w.heap.size w W → IsInts W (.slice aV (g.succ.getD k []).length cV) (g.succ.getD k [])) := fun W hW => hV ▸ HSU.out k hlt W hW
        rw [hV] at c20
        have HVV := Lib.hid hV
        clear hV
        have HBW : Hid (∀ W, Below wr.drew.heap.size wr.drew W → Below w.heap.size w W) := fun W h => hB.bl.trans (((Below.drew (B := wr.heap.size) (Below.refl _ wr)).trans h).mono hB.bl.size)
        have HT : Hid (∀ W, Below wr.drew.heap.size wr.drew W → W.cell? ⟨bT, oT + k, none⟩ = some (.int .i64 (s.getD k 0))) := fun W h => HT0.out k hlt W (HBW.out W h)
        have HZ : Hid (∀ W, Below wr.drew.heap.size wr.drew W → W.cell? ⟨w.heap.size, 0, none⟩ = some (.slice (some ⟨b0, o0, none⟩) R c0) ∧ W.cell? ⟨w.heap.size, 1, none⟩ = some (.slice a1 n1 c1) ∧ W.cell? ⟨w.heap.size, 2, none⟩ = some (.slice (some ⟨b2, o2, none⟩) R c2)) := fun W h => by
          have hbx := hB.step ((Below.drew (B := wr.heap.size) (Below.refl _ wr)).trans h)
          exact ⟨hbx.cell 0 rfl, hbx.cell 1 rfl, hbx.cell 2 rfl⟩
        have HFF : Hid (∀ W, Below wr.drew.heap.size wr.drew W → Calls Try.prog 34 #[.agg #[.slice (some ⟨b0, o0, none⟩) R c0, .slice a1 n1 c1, .slice (some ⟨b2, o2, none⟩) R c2], .int .i64 k, .int .i64 (s.getD k 0)] W (Calm (.bool (decide (s.getD k 0 ∈ g.succ.getD k []))) W)) := fun W h => HFW.out W (HBW.out W h) k _ (by have := HL3.out; omega)
        have hx64 := HX.out k hlt
        have HVS := Lib.hid (HVA.out k hlt)
        have hL0 : 0 < (g.succ.getD k []).length := List.length_pos_iff.2 (HNE.out k hlt)
        have HKO := Lib.hid (fun hq => keeps_out (g := g) (p := p) (set := set) (s := s) (k := k) hq)
        have HKW := Lib.hid (fun hq ho => keeps_own (g := g) (p := p) (set := set) (s := s) (k := k) hq ho)
        have HKT := Lib.hid (fun hq ho => keeps_oth (g := g) (p := p) (set := set) (s := s) (k := k) hq ho)
        generalize hxe : s.getD k 0 = x at *
        clear hxe
        obtain ⟨sl, hsl⟩ : ∃ sl, g.succ.getD k [] = sl := ⟨_, rfl⟩
        rw [hsl] at c20 HIV HFF HVS hL0 HKW HKT HVV
        clear hsl
        have hL1 : (0 : Int) < (sl.length : Int) := by omega
        cases hq : set.getD k false
        · rw [hq] at cS0
          have HQ := Lib.hid hq
          have HKB := Lib.hid (HKO.out hq)
          clear hq HKO HKW HKT
          go_upto_region 7 with (fail)
          have hmx : Try.prog.follows .mixedOrders = true := by kernel_rfl
          cases hse : (x != -1)
          · have HSE := Lib.hid hse
            clear hse
            refine region_stable0 hmx (RV7b w.heap.size b0 o0 R c0 a1 n1 c1 b2 o2 c2 bT oT cT bS oS cS k x 0) (fun vs => { tmps := (_ :: _ :: _ :: _ :: _ :: _ :: _ :: _ :: _ :: _ :: _ :: _ :: _ :: _ :: _ :: _ :: _ :: _ :: _ :: _ :: _ :: _ :: _ :: _ :: _ :: _ :: _ :: _ :: _ :: _ :: _ :: _ :: _ :: _ :: _ :: _ :: _ :: _ :: _ :: _ :: _ :: _ :: _ :: _ :: _ :: _ :: _ :: _ :: _ :: _ :: _ :: _ :: _ :: _ :: _ :: _ :: _ :: _ :: vs 0 :: vs 1 :: vs 2 :: vs 3 :: vs 4 :: vs 5 :: vs 6 :: vs 7 :: vs 8 :: vs 9 :: vs 10 :: vs 11 :: vs 12 :: vs 13 :: vs 14 :: vs 15 :: vs 16 :: vs 17 :: vs 18 :: vs 19 :: vs 20 :: vs 21 :: vs 22 :: vs 23 :: vs 24 :: vs 25 :: vs 26 :: vs 27 :: vs 28 :: vs 29 :: vs 30 :: vs 31 :: _ :: _ :: _ :: _ :: _ :: _ :: _ :: _ :: _ :: _ :: _ :: _ :: _ :: _ :: _ :: _ :: _ :: _ :: _ :: _ :: _ :: _ :: _ :: _ :: _ :: _ :: _ :: _ :: _ :: _ :: _ :: _ :: []).toArray, defers := _ }) (fun n => [u58, u59, u60, u61, u62, u63, u64, u65, u66, u67, u68, u69, u70, u71, u72, u73, u74, u75, u76, u77, u78, u79, u80, u81, u82, u83, u84, u85, u86, u87, u88, u89].getD n undef) rfl (by kernel_rfl) (fun _ _ _ _ h _ => h) ?step ?fin
            case step =>
              intro ix o ho
              match ix, ho with
              | 0, ho =>
                obtain rfl := Option.some.inj ho
                intro vs W K hB hD hU hK
                have HK := Lib.hid hK
                clear hK hD hU ho
                dsimp only
                go_simp
                have h := HK.out _ _ (Below.refl _ _) rfl
                simp only [upd, Nat.reduceEqDiff, reduceIte] at h
                exact h
              | 1, ho =>
                obtain rfl := Option.some.inj ho
                intro vs W K hB hD hU hK
                have HK := Lib.hid hK
                have e0 : vs 0 = .bool false := dep_of hD 0 (by rfl)
                clear hK hD hU ho
                dsimp only
                go_simp
                have h := HK.out _ _ (Below.refl _ _) rfl
                simp only [upd, Nat.reduceEqDiff, reduceIte, e0] at h
                exact h
              | 2, ho =>
                obtain rfl := Option.some.inj ho
                intro vs W K hB hD hU hK
                have HK := Lib.hid hK
                have e1 : vs 1 = .bool true := dep_of hD 1 (by rfl)
                clear hK hD hU ho
                dsimp only
                go_simp
                have h := HK.out _ _ (Below.refl _ _) rfl
                simp only [upd, Nat.reduceEqDiff, reduceIte, e1] at h
                exact h
              | 3, ho =>
                obtain rfl := Option.some.inj ho
                intro vs W K hB hD hU hK
                have HK := Lib.hid hK
                have e2 : vs 2 = .bool true := dep_of hD 2 (by rfl)
                clear hK hD hU ho
                dsimp only
                go_simp
                have h := HK.out _ _ (Below.refl _ _) rfl
                simp only [upd, Nat.reduceEqDiff, reduceIte, e2] at h
                exact h
              | 4, ho =>
                obtain rfl := Option.some.inj ho
                intro vs W K hB hD hU hK
                have HK := Lib.hid hK
                have e2 : vs 2 = .bool true := dep_of hD 2 (by rfl)
                clear hK hD hU ho
                dsimp only
                go_simp
                have h := HK.out _ _ (Below.refl _ _) rfl
                simp only [upd, Nat.reduceEqDiff, reduceIte, e2] at h
                exact h
              | 5, ho =>
                obtain rfl := Option.some.inj ho
                intro vs W K hB hD hU hK
                have HK := Lib.hid hK
                have e2 : vs 2 = .bool true := dep_of hD 2 (by rfl)
                have e3 : vs 3 = .slice (some ⟨bT, oT, none⟩) R cT := dep_of hD 3 (by rfl)
                have e4 : vs 4 = .int .i64 k := dep_of hD 4 (by rfl)
                clear hK hD hU ho
                dsimp only
                go_simp
                have h := HK.out _ _ (Below.refl _ _) rfl
                simp only [upd, Nat.reduceEqDiff, reduceIte, e2, e3, e4] at h
                exact h
              | 6, ho =>
                obtain rfl := Option.some.inj ho
                intro vs W K hB hD hU hK
                have HK := Lib.hid hK
                have e2 : vs 2 = .bool true := dep_of hD 2 (by rfl)
                have e5 : vs 5 = .pointer (some ⟨bT, oT + k, none⟩) := dep_of hD 5 (by rfl)
                have cT := HT.out W hB
                clear hK hD hU ho
                dsimp only
                go_simp
                have h := HK.out _ _ (Below.refl _ _) rfl
                simp only [upd, Nat.reduceEqDiff, reduceIte, e2, e5] at h
                exact h
              | 7, ho =>
                obtain rfl := Option.some.inj ho
                intro vs W K hB hD hU hK
                have HK := Lib.hid hK
                have e2 : vs 2 = .bool true := dep_of hD 2 (by rfl)
                have e6 : vs 6 = .int .i64 x := dep_of hD 6 (by rfl)
                have hse := HSE.out
                clear hK hD hU ho
                dsimp only
                go_simp
                have h := HK.out _ _ (Below.refl _ _) rfl
                simp only [upd, Nat.reduceEqDiff, reduceIte, e2, e6] at h
                exact h
              | 8, ho =>
                obtain rfl := Option.some.inj ho
                intro vs W K hB hD hU hK
                have HK := Lib.hid hK
                have e2 : vs 2 = .bool true := dep_of hD 2 (by rfl)
                have e7 : vs 7 = .bool false := dep_of hD 7 (by rfl)
                clear hK hD hU ho
                dsimp only
                go_simp
                have h := HK.out _ _ (Below.refl _ _) rfl
                simp only [upd, Nat.reduceEqDiff, reduceIte, e2, e7] at h
                exact h
              | 9, ho =>
                obtain rfl := Option.some.inj ho
                intro vs W K hB hD hU hK
                have HK := Lib.hid hK
                have e8 : vs 8 = .bool false := dep_of hD 8 (by rfl)
                clear hK hD hU ho
                dsimp only
                go_simp
                have h := HK.out _ _ (Below.refl _ _) rfl
                simp only [upd, Nat.reduceEqDiff, reduceIte, e8] at h
                exact h
              | 10, ho =>
                obtain rfl := Option.some.inj ho
                intro vs W K hB hD hU hK
                have HK := Lib.hid hK
                have e9 : vs 9 = .bool false := dep_of hD 9 (by rfl)
                clear hK hD hU ho
                dsimp only
                go_simp
                have h := HK.out _ _ (Below.refl _ _) rfl
                simp only [upd, Nat.reduceEqDiff, reduceIte, e9] at h
                exact h
              | 11, ho =>
                obtain rfl := Option.some.inj ho
                intro vs W K hB hD hU hK
                have HK := Lib.hid hK
                have e9 : vs 9 = .bool false := dep_of hD 9 (by rfl)
                have e10 : vs 10 = .bool false := dep_of hD 10 (by rfl)
                clear hK hD hU ho
                dsimp only
                go_simp
                have h := HK.out _ _ (Below.refl _ _) rfl
                simp only [upd, Nat.reduceEqDiff, reduceIte, e9, e10] at h
                exact h
              | 12, ho =>
                obtain rfl := Option.some.inj ho
                intro vs W K hB hD hU hK
                have HK := Lib.hid hK
                have e11 : vs 11 = .bool false := dep_of hD 11 (by rfl)
                clear hK hD hU ho
                dsimp only
                go_simp
                have h := HK.out _ _ (Below.refl _ _) rfl
                simp only [upd, Nat.reduceEqDiff, reduceIte, e11] at h
                exact h
              | 13, ho =>
                obtain rfl := Option.some.inj ho
                intro vs W K hB hD hU hK
                have HK := Lib.hid hK
                have e11 : vs 11 = .bool false := dep_of hD 11 (by rfl)
                clear hK hD hU ho
                dsimp only
                go_simp
                have h := HK.out _ _ (Below.refl _ _) rfl
                simp only [upd, Nat.reduceEqDiff, reduceIte, e11] at h
                exact h
              | 14, ho =>
                obtain rfl := Option.some.inj ho
                intro vs W K hB hD hU hK
                have HK := Lib.hid hK
                have e11 : vs 11 = .bool false := dep_of hD 11 (by rfl)
                clear hK hD hU ho
                dsimp only
                go_simp
                have h := HK.out _ _ (Below.refl _ _) rfl
                simp only [upd, Nat.reduceEqDiff, reduceIte, e11] at h
                exact h
              | 15, ho =>
                obtain rfl := Option.some.inj ho
                intro vs W K hB hD hU hK
                have HK := Lib.hid hK
                have e11 : vs 11 = .bool false := dep_of hD 11 (by rfl)
                clear hK hD hU ho
                dsimp only
                go_simp
                have h := HK.out _ _ (Below.refl _ _) rfl
                simp only [upd, Nat.reduceEqDiff, reduceIte, e11] at h
                exact h
              | 16, ho =>
                obtain rfl := Option.some.inj ho
                intro vs W K hB hD hU hK
                have HK := Lib.hid hK
                have e11 : vs 11 = .bool false := dep_of hD 11 (by rfl)
                clear hK hD hU ho
                dsimp only
                go_simp
                have h := HK.out _ _ (Below.refl _ _) rfl
                simp only [upd, Nat.reduceEqDiff, reduceIte, e11] at h
                exact h
              | 17, ho =>
                obtain rfl := Option.some.inj ho
                intro vs W K hB hD hU hK
                have HK := Lib.hid hK
                have e11 : vs 11 = .bool false := dep_of hD 11 (by rfl)
                clear hK hD hU ho
                dsimp only
                go_simp
                have h := HK.out _ _ (Below.refl _ _) rfl
                simp only [upd, Nat.reduceEqDiff, reduceIte, e11] at h
                exact h
              | 18, ho =>
                obtain rfl := Option.some.inj ho
                intro vs W K hB hD hU hK
                have HK := Lib.hid hK
                have e11 : vs 11 = .bool false := dep_of hD 11 (by rfl)
                clear hK hD hU ho
                dsimp only
                go_simp
                have h := HK.out _ _ (Below.refl _ _) rfl
                simp only [upd, Nat.reduceEqDiff, reduceIte, e11] at h
                exact h
              | 19, ho =>
                obtain rfl := Option.some.inj ho
                intro vs W K hB hD hU hK
                have HK := Lib.hid hK
                have e11 : vs 11 = .bool false := dep_of hD 11 (by rfl)
                clear hK hD hU ho
                dsimp only
                go_simp
                have h := HK.out _ _ (Below.refl _ _) rfl
                simp only [upd, Nat.reduceEqDiff, reduceIte, e11] at h
                exact h
              | 20, ho =>
                obtain rfl := Option.some.inj ho
                intro vs W K hB hD hU hK
                have HK := Lib.hid hK
                have e11 : vs 11 = .bool false := dep_of hD 11 (by rfl)
                clear hK hD hU ho
                dsimp only
                go_simp
                have h := HK.out _ _ (Below.refl _ _) rfl
                simp only [upd, Nat.reduceEqDiff, reduceIte, e11] at h
                exact h
              | 21, ho =>
                obtain rfl := Option.some.inj ho
                intro vs W K hB hD hU hK
                have HK := Lib.hid hK
                have e20 : vs 20 = undef := dep_of hD 20 (by rfl)
                clear hK hD hU ho
                dsimp only
                go_simp
                have h := HK.out _ _ (Below.refl _ _) rfl
                simp only [upd, Nat.reduceEqDiff, reduceIte, e20] at h
                exact h
              | 22, ho =>
                obtain rfl := Option.some.inj ho
                intro vs W K hB hD hU hK
                have HK := Lib.hid hK
                have e20 : vs 20 = undef := dep_of hD 20 (by rfl)
                clear hK hD hU ho
                dsimp only
                go_simp
                have h := HK.out _ _ (Below.refl _ _) rfl
                simp only [upd, Nat.reduceEqDiff, reduceIte, e20] at h
                exact h
              | 23, ho =>
                obtain rfl := Option.some.inj ho
                intro vs W K hB hD hU hK
                have HK := Lib.hid hK
                have e20 : vs 20 = undef := dep_of hD 20 (by rfl)
                clear hK hD hU ho
                dsimp only
                go_simp
                have h := HK.out _ _ (Below.refl _ _) rfl
                simp only [upd, Nat.reduceEqDiff, reduceIte, e20] at h
                exact h
              | 24, ho =>
                obtain rfl := Option.some.inj ho
                intro vs W K hB hD hU hK
                have HK := Lib.hid hK
                have e20 : vs 20 = undef := dep_of hD 20 (by rfl)
                clear hK hD hU ho
                dsimp only
                go_simp
                have h := HK.out _ _ (Below.refl _ _) rfl
                simp only [upd, Nat.reduceEqDiff, reduceIte, e20] at h
                exact h
              | 25, ho =>
                obtain rfl := Option.some.inj ho
                intro vs W K hB hD hU hK
                have HK := Lib.hid hK
                have e20 : vs 20 = undef := dep_of hD 20 (by rfl)
                clear hK hD hU ho
                dsimp only
                go_simp
                have h := HK.out _ _ (Below.refl _ _) rfl
                simp only [upd, Nat.reduceEqDiff, reduceIte, e20] at h
                exact h
              | 26, ho =>
                obtain rfl := Option.some.inj ho
                intro vs W K hB hD hU hK
                have HK := Lib.hid hK
                have e20 : vs 20 = undef := dep_of hD 20 (by rfl)
                clear hK hD hU ho
                dsimp only
                go_simp
                have h := HK.out _ _ (Below.refl _ _) rfl
                simp only [upd, Nat.reduceEqDiff, reduceIte, e20] at h
                exact h
              | 27, ho =>
                obtain rfl := Option.some.inj ho
                intro vs W K hB hD hU hK
                have HK := Lib.hid hK
                have e20 : vs 20 = undef := dep_of hD 20 (by rfl)
                clear hK hD hU ho
                dsimp only
                go_simp
                have h := HK.out _ _ (Below.refl _ _) rfl
                simp only [upd, Nat.reduceEqDiff, reduceIte, e20] at h
                exact h
              | 28, ho =>
                obtain rfl := Option.some.inj ho
                intro vs W K hB hD hU hK
                have HK := Lib.hid hK
                have e20 : vs 20 = undef := dep_of hD 20 (by rfl)
                clear hK hD hU ho
                dsimp only
                go_simp
                have h := HK.out _ _ (Below.refl _ _) rfl
                simp only [upd, Nat.reduceEqDiff, reduceIte, e20] at h
                exact h
              | 29, ho =>
                obtain rfl := Option.some.inj ho
                intro vs W K hB hD hU hK
                have HK := Lib.hid hK
                have e11 : vs 11 = .bool false := dep_of hD 11 (by rfl)
                clear hK hD hU ho
                dsimp only
                go_simp
                have h := HK.out _ _ (Below.refl _ _) rfl
                simp only [upd, Nat.reduceEqDiff, reduceIte, e11] at h
                exact h
              | 30, ho =>
                obtain rfl := Option.some.inj ho
                intro vs W K hB hD hU hK
                have HK := Lib.hid hK
                have e9 : vs 9 = .bool false := dep_of hD 9 (by rfl)
                have e11 : vs 11 = .bool false := dep_of hD 11 (by rfl)
                have e29 : vs 29 = undef := dep_of hD 29 (by rfl)
                clear hK hD hU ho
                dsimp only
                go_simp
                have h := HK.out _ _ (Below.refl _ _) rfl
                simp only [upd, Nat.reduceEqDiff, reduceIte, e9, e11, e29] at h
                exact h
              | 31, ho =>
                obtain rfl := Option.some.inj ho
                intro vs W K hB hD hU hK
                have HK := Lib.hid hK
                have e9 : vs 9 = .bool false := dep_of hD 9 (by rfl)
                have e30 : vs 30 = .bool false := dep_of hD 30 (by rfl)
                clear hK hD hU ho
                dsimp only
                go_simp
                have h := HK.out _ _ (Below.refl _ _) rfl
                simp only [upd, Nat.reduceEqDiff, reduceIte, e9, e30] at h
                exact h
              | q + 32, ho => exact absurd ho (by simp)
            case fin =>
              intro vs W hB hall
              have e31 : vs 31 = .bool false := hall 31 (by decide)
              have hB3 := (Below.drew (B := wr.heap.size) (Below.refl _ wr)).trans hB
              clear hall hB
              rw [e31]
              clear e31
              generalize vs 0 = z0q
              generalize vs 1 = z1q
              generalize vs 2 = z2q
              generalize vs 3 = z3q
              generalize vs 4 = z4q
              generalize vs 5 = z5q
              generalize vs 6 = z6q
              generalize vs 7 = z7q
              generalize vs 8 = z8q
              generalize vs 9 = z9q
              generalize vs 10 = z10q
              generalize vs 11 = z11q
              generalize vs 12 = z12q
              generalize vs 13 = z13q
              generalize vs 14 = z14q
              generalize vs 15 = z15q
              generalize vs 16 = z16q
              generalize vs 17 = z17q
              generalize vs 18 = z18q
              generalize vs 19 = z19q
              generalize vs 20 = z20q
              generalize vs 21 = z21q
              generalize vs 22 = z22q
              generalize vs 23 = z23q
              generalize vs 24 = z24q
              generalize vs 25 = z25q
              generalize vs 26 = z26q
              generalize vs 27 = z27q
              generalize vs 28 = z28q
              generalize vs 29 = z29q
              generalize vs 30 = z30q
              clear vs
              have hBn := hB.step hB3
              clear hB3 d0 d1 d2 c00 c20 cS0 cT0
              clear hB HBW HT HZ HFF
              go_wp2
              go_loopg [8, 11] 0 (fun gh r i wi => gh = 0 ∧ i = .int .i64 0 ∧ r = .bool false ∧ wi = W)
              case atStart => exact ⟨rfl, rfl, rfl, rfl⟩
              case round =>
                obtain ⟨-, rfl, rfl, rfl⟩ := hrel
                have d2 := hBn.cell 2 rfl
                have c2n := H2.out k hlt _ hBn.bl
                rw [HVV.out] at c2n
                have cSn := HS0.out k hlt _ hBn.bl
                rw [HQ.out] at cSn
                go_wp2
                go_roundg (R - (k + 1))
                case measure => have := HGK.out; omega
                case rel => exact ⟨k + 1, rfl, by go_num, rfl, by omega, hBn, by show _ = _; rw [rangeA_succ, HE.out, HKB.out, show (x == -1) = true by have := HSE.out; simpa using this]; rfl⟩
          · have HSE := Lib.hid hse
            clear hse
            refine region_stable0 hmx (RV7a w.heap.size b0 o0 R c0 a1 n1 c1 b2 o2 c2 bT oT cT bS oS cS k x 0) (fun vs => { tmps := (_ :: _ :: _ :: _ :: _ :: _ :: _ :: _ :: _ :: _ :: _ :: _ :: _ :: _ :: _ :: _ :: _ :: _ :: _ :: _ :: _ :: _ :: _ :: _ :: _ :: _ :: _ :: _ :: _ :: _ :: _ :: _ :: _ :: _ :: _ :: _ :: _ :: _ :: _ :: _ :: _ :: _ :: _ :: _ :: _ :: _ :: _ :: _ :: _ :: _ :: _ :: _ :: _ :: _ :: _ :: _ :: _ :: _ :: vs 0 :: vs 1 :: vs 2 :: vs 3 :: vs 4 :: vs 5 :: vs 6 :: vs 7 :: vs 8 :: vs 9 :: vs 10 :: vs 11 :: vs 12 :: vs 13 :: vs 14 :: vs 15 :: vs 16 :: vs 17 :: vs 18 :: vs 19 :: vs 20 :: vs 21 :: vs 22 :: vs 23 :: vs 24 :: vs 25 :: vs 26 :: vs 27 :: vs 28 :: vs 29 :: vs 30 :: vs 31 :: _ :: _ :: _ :: _ :: _ :: _ :: _ :: _ :: _ :: _ :: _ :: _ :: _ :: _ :: _ :: _ :: _ :: _ :: _ :: _ :: _ :: _ :: _ :: _ :: _ :: _ :: _ :: _ :: _ :: _ :: _ :: _ :: []).toArray, defers := _ }) (fun n => [u58, u59, u60, u61, u62, u63, u64, u65, u66, u67, u68, u69, u70, u71, u72, u73, u74, u75, u76, u77, u78, u79, u80, u81, u82, u83, u84, u85, u86, u87, u88, u89].getD n undef) rfl (by kernel_rfl) (fun _ _ _ _ h _ => h) ?step ?fin
            case step =>
              intro ix o ho
              match ix, ho with
              | 0, ho =>
                obtain rfl := Option.some.inj ho
                intro vs W K hB hD hU hK
                have HK := Lib.hid hK
                clear hK hD hU ho
                dsimp only
                go_simp
                have h := HK.out _ _ (Below.refl _ _) rfl
                simp only [upd, Nat.reduceEqDiff, reduceIte] at h
                exact h
              | 1, ho =>
                obtain rfl := Option.some.inj ho
                intro vs W K hB hD hU hK
                have HK := Lib.hid hK
                have e0 : vs 0 = .bool false := dep_of hD 0 (by rfl)
                clear hK hD hU ho
                dsimp only
                go_simp
                have h := HK.out _ _ (Below.refl _ _) rfl
                simp only [upd, Nat.reduceEqDiff, reduceIte, e0] at h
                exact h
              | 2, ho =>
                obtain rfl := Option.some.inj ho
                intro vs W K hB hD hU hK
                have HK := Lib.hid hK
                have e1 : vs 1 = .bool true := dep_of hD 1 (by rfl)
                clear hK hD hU ho
                dsimp only
                go_simp
                have h := HK.out _ _ (Below.refl _ _) rfl
                simp only [upd, Nat.reduceEqDiff, reduceIte, e1] at h
                exact h
              | 3, ho =>
                obtain rfl := Option.some.inj ho
                intro vs W K hB hD hU hK
                have HK := Lib.hid hK
                have e2 : vs 2 = .bool true := dep_of hD 2 (by rfl)
                clear hK hD hU ho
                dsimp only
                go_simp
                have h := HK.out _ _ (Below.refl _ _) rfl
                simp only [upd, Nat.reduceEqDiff, reduceIte, e2] at h
                exact h
              | 4, ho =>
                obtain rfl := Option.some.inj ho
                intro vs W K hB hD hU hK
                have HK := Lib.hid hK
                have e2 : vs 2 = .bool true := dep_of hD 2 (by rfl)
                clear hK hD hU ho
                dsimp only
                go_simp
                have h := HK.out _ _ (Below.refl _ _) rfl
                simp only [upd, Nat.reduceEqDiff, reduceIte, e2] at h
                exact h
              | 5, ho =>
                obtain rfl := Option.some.inj ho
                intro vs W K hB hD hU hK
                have HK := Lib.hid hK
                have e2 : vs 2 = .bool true := dep_of hD 2 (by rfl)
                have e3 : vs 3 = .slice (some ⟨bT, oT, none⟩) R cT := dep_of hD 3 (by rfl)
                have e4 : vs 4 = .int .i64 k := dep_of hD 4 (by rfl)
                clear hK hD hU ho
                dsimp only
                go_simp
                have h := HK.out _ _ (Below.refl _ _) rfl
                simp only [upd, Nat.reduceEqDiff, reduceIte, e2, e3, e4] at h
                exact h
              | 6, ho =>
                obtain rfl := Option.some.inj ho
                intro vs W K hB hD hU hK
                have HK := Lib.hid hK
                have e2 : vs 2 = .bool true := dep_of hD 2 (by rfl)
                have e5 : vs 5 = .pointer (some ⟨bT, oT + k, none⟩) := dep_of hD 5 (by rfl)
                have cT := HT.out W hB
                clear hK hD hU ho
                dsimp only
                go_simp
                have h := HK.out _ _ (Below.refl _ _) rfl
                simp only [upd, Nat.reduceEqDiff, reduceIte, e2, e5] at h
                exact h
              | 7, ho =>
                obtain rfl := Option.some.inj ho
                intro vs W K hB hD hU hK
                have HK := Lib.hid hK
                have e2 : vs 2 = .bool true := dep_of hD 2 (by rfl)
                have e6 : vs 6 = .int .i64 x := dep_of hD 6 (by rfl)
                have hse := HSE.out
                clear hK hD hU ho
                dsimp only
                go_simp
                have h := HK.out _ _ (Below.refl _ _) rfl
                simp only [upd, Nat.reduceEqDiff, reduceIte, e2, e6] at h
                exact h
              | 8, ho =>
                obtain rfl := Option.some.inj ho
                intro vs W K hB hD hU hK
                have HK := Lib.hid hK
                have e2 : vs 2 = .bool true := dep_of hD 2 (by rfl)
                have e7 : vs 7 = .bool true := dep_of hD 7 (by rfl)
                clear hK hD hU ho
                dsimp only
                go_simp
                have h := HK.out _ _ (Below.refl _ _) rfl
                simp only [upd, Nat.reduceEqDiff, reduceIte, e2, e7] at h
                exact h
              | 9, ho =>
                obtain rfl := Option.some.inj ho
                intro vs W K hB hD hU hK
                have HK := Lib.hid hK
                have e8 : vs 8 = .bool true := dep_of hD 8 (by rfl)
                clear hK hD hU ho
                dsimp only
                go_simp
                have h := HK.out _ _ (Below.refl _ _) rfl
                simp only [upd, Nat.reduceEqDiff, reduceIte, e8] at h
                exact h
              | 10, ho =>
                obtain rfl := Option.some.inj ho
                intro vs W K hB hD hU hK
                have HK := Lib.hid hK
                have e9 : vs 9 = .bool true := dep_of hD 9 (by rfl)
                clear hK hD hU ho
                dsimp only
                go_simp
                have h := HK.out _ _ (Below.refl _ _) rfl
                simp only [upd, Nat.reduceEqDiff, reduceIte, e9] at h
                exact h
              | 11, ho =>
                obtain rfl := Option.some.inj ho
                intro vs W K hB hD hU hK
                have HK := Lib.hid hK
                have e9 : vs 9 = .bool true := dep_of hD 9 (by rfl)
                clear hK hD hU ho
                dsimp only
                go_simp
                have h := HK.out _ _ (Below.refl _ _) rfl
                simp only [upd, Nat.reduceEqDiff, reduceIte, e9] at h
                exact h
              | 12, ho =>
                obtain rfl := Option.some.inj ho
                intro vs W K hB hD hU hK
                have HK := Lib.hid hK
                have e11 : vs 11 = undef := dep_of hD 11 (by rfl)
                clear hK hD hU ho
                dsimp only
                go_simp
                have h := HK.out _ _ (Below.refl _ _) rfl
                simp only [upd, Nat.reduceEqDiff, reduceIte, e11] at h
                exact h
              | 13, ho =>
                obtain rfl := Option.some.inj ho
                intro vs W K hB hD hU hK
                have HK := Lib.hid hK
                have e11 : vs 11 = undef := dep_of hD 11 (by rfl)
                clear hK hD hU ho
                dsimp only
                go_simp
                have h := HK.out _ _ (Below.refl _ _) rfl
                simp only [upd, Nat.reduceEqDiff, reduceIte, e11] at h
                exact h
              | 14, ho =>
                obtain rfl := Option.some.inj ho
                intro vs W K hB hD hU hK
                have HK := Lib.hid hK
                have e11 : vs 11 = undef := dep_of hD 11 (by rfl)
                clear hK hD hU ho
                dsimp only
                go_simp
                have h := HK.out _ _ (Below.refl _ _) rfl
                simp only [upd, Nat.reduceEqDiff, reduceIte, e11] at h
                exact h
              | 15, ho =>
                obtain rfl := Option.some.inj ho
                intro vs W K hB hD hU hK
                have HK := Lib.hid hK
                have e11 : vs 11 = undef := dep_of hD 11 (by rfl)
                clear hK hD hU ho
                dsimp only
                go_simp
                have h := HK.out _ _ (Below.refl _ _) rfl
                simp only [upd, Nat.reduceEqDiff, reduceIte, e11] at h
                exact h
              | 16, ho =>
                obtain rfl := Option.some.inj ho
                intro vs W K hB hD hU hK
                have HK := Lib.hid hK
                have e11 : vs 11 = undef := dep_of hD 11 (by rfl)
                clear hK hD hU ho
                dsimp only
                go_simp
                have h := HK.out _ _ (Below.refl _ _) rfl
                simp only [upd, Nat.reduceEqDiff, reduceIte, e11] at h
                exact h
              | 17, ho =>
                obtain rfl := Option.some.inj ho
                intro vs W K hB hD hU hK
                have HK := Lib.hid hK
                have e11 : vs 11 = undef := dep_of hD 11 (by rfl)
                clear hK hD hU ho
                dsimp only
                go_simp
                have h := HK.out _ _ (Below.refl _ _) rfl
                simp only [upd, Nat.reduceEqDiff, reduceIte, e11] at h
                exact h
              | 18, ho =>
                obtain rfl := Option.some.inj ho
                intro vs W K hB hD hU hK
                have HK := Lib.hid hK
                have e11 : vs 11 = undef := dep_of hD 11 (by rfl)
                clear hK hD hU ho
                dsimp only
                go_simp
                have h := HK.out _ _ (Below.refl _ _) rfl
                simp only [upd, Nat.reduceEqDiff, reduceIte, e11] at h
                exact h
              | 19, ho =>
                obtain rfl := Option.some.inj ho
                intro vs W K hB hD hU hK
                have HK := Lib.hid hK
                have e11 : vs 11 = undef := dep_of hD 11 (by rfl)
                clear hK hD hU ho
                dsimp only
                go_simp
                have h := HK.out _ _ (Below.refl _ _) rfl
                simp only [upd, Nat.reduceEqDiff, reduceIte, e11] at h
                exact h
              | 20, ho =>
                obtain rfl := Option.some.inj ho
                intro vs W K hB hD hU hK
                have HK := Lib.hid hK
                have e11 : vs 11 = undef := dep_of hD 11 (by rfl)
                clear hK hD hU ho
                dsimp only
                go_simp
                have h := HK.out _ _ (Below.refl _ _) rfl
                simp only [upd, Nat.reduceEqDiff, reduceIte, e11] at h
                exact h
              | 21, ho =>
                obtain rfl := Option.some.inj ho
                intro vs W K hB hD hU hK
                have HK := Lib.hid hK
                have e20 : vs 20 = undef := dep_of hD 20 (by rfl)
                clear hK hD hU ho
                dsimp only
                go_simp
                have h := HK.out _ _ (Below.refl _ _) rfl
                simp only [upd, Nat.reduceEqDiff, reduceIte, e20] at h
                exact h
              | 22, ho =>
                obtain rfl := Option.some.inj ho
                intro vs W K hB hD hU hK
                have HK := Lib.hid hK
                have e20 : vs 20 = undef := dep_of hD 20 (by rfl)
                clear hK hD hU ho
                dsimp only
                go_simp
                have h := HK.out _ _ (Below.refl _ _) rfl
                simp only [upd, Nat.reduceEqDiff, reduceIte, e20] at h
                exact h
              | 23, ho =>
                obtain rfl := Option.some.inj ho
                intro vs W K hB hD hU hK
                have HK := Lib.hid hK
                have e20 : vs 20 = undef := dep_of hD 20 (by rfl)
                clear hK hD hU ho
                dsimp only
                go_simp
                have h := HK.out _ _ (Below.refl _ _) rfl
                simp only [upd, Nat.reduceEqDiff, reduceIte, e20] at h
                exact h
              | 24, ho =>
                obtain rfl := Option.some.inj ho
                intro vs W K hB hD hU hK
                have HK := Lib.hid hK
                have e20 : vs 20 = undef := dep_of hD 20 (by rfl)
                clear hK hD hU ho
                dsimp only
                go_simp
                have h := HK.out _ _ (Below.refl _ _) rfl
                simp only [upd, Nat.reduceEqDiff, reduceIte, e20] at h
                exact h
              | 25, ho =>
                obtain rfl := Option.some.inj ho
                intro vs W K hB hD hU hK
                have HK := Lib.hid hK
                have e20 : vs 20 = undef := dep_of hD 20 (by rfl)
                clear hK hD hU ho
                dsimp only
                go_simp
                have h := HK.out _ _ (Below.refl _ _) rfl
                simp only [upd, Nat.reduceEqDiff, reduceIte, e20] at h
                exact h
              | 26, ho =>
                obtain rfl := Option.some.inj ho
                intro vs W K hB hD hU hK
                have HK := Lib.hid hK
                have e20 : vs 20 = undef := dep_of hD 20 (by rfl)
                clear hK hD hU ho
                dsimp only
                go_simp
                have h := HK.out _ _ (Below.refl _ _) rfl
                simp only [upd, Nat.reduceEqDiff, reduceIte, e20] at h
                exact h
              | 27, ho =>
                obtain rfl := Option.some.inj ho
                intro vs W K hB hD hU hK
                have HK := Lib.hid hK
                have e20 : vs 20 = undef := dep_of hD 20 (by rfl)
                clear hK hD hU ho
                dsimp only
                go_simp
                have h := HK.out _ _ (Below.refl _ _) rfl
                simp only [upd, Nat.reduceEqDiff, reduceIte, e20] at h
                exact h
              | 28, ho =>
                obtain rfl := Option.some.inj ho
                intro vs W K hB hD hU hK
                have HK := Lib.hid hK
                have e20 : vs 20 = undef := dep_of hD 20 (by rfl)
                clear hK hD hU ho
                dsimp only
                go_simp
                have h := HK.out _ _ (Below.refl _ _) rfl
                simp only [upd, Nat.reduceEqDiff, reduceIte, e20] at h
                exact h
              | 29, ho =>
                obtain rfl := Option.some.inj ho
                intro vs W K hB hD hU hK
                have HK := Lib.hid hK
                have e11 : vs 11 = undef := dep_of hD 11 (by rfl)
                clear hK hD hU ho
                dsimp only
                go_simp
                have h := HK.out _ _ (Below.refl _ _) rfl
                simp only [upd, Nat.reduceEqDiff, reduceIte, e11] at h
                exact h
              | 30, ho =>
                obtain rfl := Option.some.inj ho
                intro vs W K hB hD hU hK
                have HK := Lib.hid hK
                have e9 : vs 9 = .bool true := dep_of hD 9 (by rfl)
                clear hK hD hU ho
                dsimp only
                go_simp
                have h := HK.out _ _ (Below.refl _ _) rfl
                simp only [upd, Nat.reduceEqDiff, reduceIte, e9] at h
                exact h
              | 31, ho =>
                obtain rfl := Option.some.inj ho
                intro vs W K hB hD hU hK
                have HK := Lib.hid hK
                have e9 : vs 9 = .bool true := dep_of hD 9 (by rfl)
                have e30 : vs 30 = undef := dep_of hD 30 (by rfl)
                clear hK hD hU ho
                dsimp only
                go_simp
                have h := HK.out _ _ (Below.refl _ _) rfl
                simp only [upd, Nat.reduceEqDiff, reduceIte, e9, e30] at h
                exact h
              | q + 32, ho => exact absurd ho (by simp)
            case fin =>
              intro vs W hB hall
              have e31 : vs 31 = .bool true := hall 31 (by decide)
              have hB3 := (Below.drew (B := wr.heap.size) (Below.refl _ wr)).trans hB
              clear hall hB
              rw [e31]
              clear e31
              generalize vs 0 = z0q
              generalize vs 1 = z1q
              generalize vs 2 = z2q
              generalize vs 3 = z3q
              generalize vs 4 = z4q
              generalize vs 5 = z5q
              generalize vs 6 = z6q
              generalize vs 7 = z7q
              generalize vs 8 = z8q
              generalize vs 9 = z9q
              generalize vs 10 = z10q
              generalize vs 11 = z11q
              generalize vs 12 = z12q
              generalize vs 13 = z13q
              generalize vs 14 = z14q
              generalize vs 15 = z15q
              generalize vs 16 = z16q
              generalize vs 17 = z17q
              generalize vs 18 = z18q
              generalize vs 19 = z19q
              generalize vs 20 = z20q
              generalize vs 21 = z21q
              generalize vs 22 = z22q
              generalize vs 23 = z23q
              generalize vs 24 = z24q
              generalize vs 25 = z25q
              generalize vs 26 = z26q
              generalize vs 27 = z27q
              generalize vs 28 = z28q
              generalize vs 29 = z29q
              generalize vs 30 = z30q
              clear vs
              have hBn := hB.step hB3
              go_wp2
              go_ret
              exact ⟨ret_bool (by rw [HF.out, rangeA_false _ _ k hlt (by rw [HKB.out]; have := HSE.out; simpa using this)]), hBn.bl⟩
        · rw [hq] at cS0
          have HQ := Lib.hid hq
          obtain ⟨ow, how⟩ : ∃ ow, g.owner.getD k 0 = ow := ⟨_, rfl⟩
          rw [how] at c00 HKW HKT
          clear how
          cases ho : (ow == p)
          · have HKB := Lib.hid (HKT.out hq ho)
            clear HKO HKW HKT
            go_upto_region 7 with (fail)
            have hmx : Try.prog.follows .mixedOrders = true := by kernel_rfl
            clear hq ho
            cases hse : (x != -1)
            · have HSE := Lib.hid hse
              clear hse
              refine region_stable0 hmx (RV7b w.heap.size b0 o0 R c0 a1 n1 c1 b2 o2 c2 bT oT cT bS oS cS k x 0) (fun vs => { tmps := (_ :: _ :: _ :: _ :: _ :: _ :: _ :: _ :: _ :: _ :: _ :: _ :: _ :: _ :: _ :: _ :: _ :: _ :: _ :: _ :: _ :: _ :: _ :: _ :: _ :: _ :: _ :: _ :: _ :: _ :: _ :: _ :: _ :: _ :: _ :: _ :: _ :: _ :: _ :: _ :: _ :: _ :: _ :: _ :: _ :: _ :: _ :: _ :: _ :: _ :: _ :: _ :: _ :: _ :: _ :: _ :: _ :: _ :: vs 0 :: vs 1 :: vs 2 :: vs 3 :: vs 4 :: vs 5 :: vs 6 :: vs 7 :: vs 8 :: vs 9 :: vs 10 :: vs 11 :: vs 12 :: vs 13 :: vs 14 :: vs 15 :: vs 16 :: vs 17 :: vs 18 :: vs 19 :: vs 20 :: vs 21 :: vs 22 :: vs 23 :: vs 24 :: vs 25 :: vs 26 :: vs 27 :: vs 28 :: vs 29 :: vs 30 :: vs 31 :: _ :: _ :: _ :: _ :: _ :: _ :: _ :: _ :: _ :: _ :: _ :: _ :: _ :: _ :: _ :: _ :: _ :: _ :: _ :: _ :: _ :: _ :: _ :: _ :: _ :: _ :: _ :: _ :: _ :: _ :: _ :: _ :: []).toArray, defers := _ }) (fun n => [u58, u59, u60, u61, u62, u63, u64, u65, u66, u67, u68, u69, u70, u71, u72, u73, u74, u75, u76, u77, u78, u79, u80, u81, u82, u83, u84, u85, u86, u87, u88, u89].getD n undef) rfl (by kernel_rfl) (fun _ _ _ _ h _ => h) ?step ?fin
              case step =>
                intro ix o ho
                match ix, ho with
                | 0, ho =>
                  obtain rfl := Option.some.inj ho
                  intro vs W K hB hD hU hK
                  have HK := Lib.hid hK
                  clear hK hD hU ho
                  dsimp only
                  go_simp
                  have h := HK.out _ _ (Below.refl _ _) rfl
                  simp only [upd, Nat.reduceEqDiff, reduceIte] at h
                  exact h
                | 1, ho =>
                  obtain rfl := Option.some.inj ho
                  intro vs W K hB hD hU hK
                  have HK := Lib.hid hK
                  have e0 : vs 0 = .bool false := dep_of hD 0 (by rfl)
                  clear hK hD hU ho
                  dsimp only
                  go_simp
                  have h := HK.out _ _ (Below.refl _ _) rfl
                  simp only [upd, Nat.reduceEqDiff, reduceIte, e0] at h
                  exact h
                | 2, ho =>
                  obtain rfl := Option.some.inj ho
                  intro vs W K hB hD hU hK
                  have HK := Lib.hid hK
                  have e1 : vs 1 = .bool true := dep_of hD 1 (by rfl)
                  clear hK hD hU ho
                  dsimp only
                  go_simp
                  have h := HK.out _ _ (Below.refl _ _) rfl
                  simp only [upd, Nat.reduceEqDiff, reduceIte, e1] at h
                  exact h
                | 3, ho =>
                  obtain rfl := Option.some.inj ho
                  intro vs W K hB hD hU hK
                  have HK := Lib.hid hK
                  have e2 : vs 2 = .bool true := dep_of hD 2 (by rfl)
                  clear hK hD hU ho
                  dsimp only
                  go_simp
                  have h := HK.out _ _ (Below.refl _ _) rfl
                  simp only [upd, Nat.reduceEqDiff, reduceIte, e2] at h
                  exact h
                | 4, ho =>
                  obtain rfl := Option.some.inj ho
                  intro vs W K hB hD hU hK
                  have HK := Lib.hid hK
                  have e2 : vs 2 = .bool true := dep_of hD 2 (by rfl)
                  clear hK hD hU ho
                  dsimp only
                  go_simp
                  have h := HK.out _ _ (Below.refl _ _) rfl
                  simp only [upd, Nat.reduceEqDiff, reduceIte, e2] at h
                  exact h
                | 5, ho =>
                  obtain rfl := Option.some.inj ho
                  intro vs W K hB hD hU hK
                  have HK := Lib.hid hK
                  have e2 : vs 2 = .bool true := dep_of hD 2 (by rfl)
                  have e3 : vs 3 = .slice (some ⟨bT, oT, none⟩) R cT := dep_of hD 3 (by rfl)
                  have e4 : vs 4 = .int .i64 k := dep_of hD 4 (by rfl)
                  clear hK hD hU ho
                  dsimp only
                  go_simp
                  have h := HK.out _ _ (Below.refl _ _) rfl
                  simp only [upd, Nat.reduceEqDiff, reduceIte, e2, e3, e4] at h
                  exact h
                | 6, ho =>
                  obtain rfl := Option.some.inj ho
                  intro vs W K hB hD hU hK
                  have HK := Lib.hid hK
                  have e2 : vs 2 = .bool true := dep_of hD 2 (by rfl)
                  have e5 : vs 5 = .pointer (some ⟨bT, oT + k, none⟩) := dep_of hD 5 (by rfl)
                  have cT := HT.out W hB
                  clear hK hD hU ho
                  dsimp only
                  go_simp
                  have h := HK.out _ _ (Below.refl _ _) rfl
                  simp only [upd, Nat.reduceEqDiff, reduceIte, e2, e5] at h
                  exact h
                | 7, ho =>
                  obtain rfl := Option.some.inj ho
                  intro vs W K hB hD hU hK
                  have HK := Lib.hid hK
                  have e2 : vs 2 = .bool true := dep_of hD 2 (by rfl)
                  have e6 : vs 6 = .int .i64 x := dep_of hD 6 (by rfl)
                  have hse := HSE.out
                  clear hK hD hU ho
                  dsimp only
                  go_simp
                  have h := HK.out _ _ (Below.refl _ _) rfl
                  simp only [upd, Nat.reduceEqDiff, reduceIte, e2, e6] at h
                  exact h
                | 8, ho =>
                  obtain rfl := Option.some.inj ho
                  intro vs W K hB hD hU hK
                  have HK := Lib.hid hK
                  have e2 : vs 2 = .bool true := dep_of hD 2 (by rfl)
                  have e7 : vs 7 = .bool false := dep_of hD 7 (by rfl)
                  clear hK hD hU ho
                  dsimp only
                  go_simp
                  have h := HK.out _ _ (Below.refl _ _) rfl
                  simp only [upd, Nat.reduceEqDiff, reduceIte, e2, e7] at h
                  exact h
                | 9, ho =>
                  obtain rfl := Option.some.inj ho
                  intro vs W K hB hD hU hK
                  have HK := Lib.hid hK
                  have e8 : vs 8 = .bool false := dep_of hD 8 (by rfl)
                  clear hK hD hU ho
                  dsimp only
                  go_simp
                  have h := HK.out _ _ (Below.refl _ _) rfl
                  simp only [upd, Nat.reduceEqDiff, reduceIte, e8] at h
                  exact h
                | 10, ho =>
                  obtain rfl := Option.some.inj ho
                  intro vs W K hB hD hU hK
                  have HK := Lib.hid hK
                  have e9 : vs 9 = .bool false := dep_of hD 9 (by rfl)
                  clear hK hD hU ho
                  dsimp only
                  go_simp
                  have h := HK.out _ _ (Below.refl _ _) rfl
                  simp only [upd, Nat.reduceEqDiff, reduceIte, e9] at h
                  exact h
                | 11, ho =>
                  obtain rfl := Option.some.inj ho
                  intro vs W K hB hD hU hK
                  have HK := Lib.hid hK
                  have e9 : vs 9 = .bool false := dep_of hD 9 (by rfl)
                  have e10 : vs 10 = .bool false := dep_of hD 10 (by rfl)
                  clear hK hD hU ho
                  dsimp only
                  go_simp
                  have h := HK.out _ _ (Below.refl _ _) rfl
                  simp only [upd, Nat.reduceEqDiff, reduceIte, e9, e10] at h
                  exact h
                | 12, ho =>
                  obtain rfl := Option.some.inj ho
                  intro vs W K hB hD hU hK
                  have HK := Lib.hid hK
                  have e11 : vs 11 = .bool false := dep_of hD 11 (by rfl)
                  clear hK hD hU ho
                  dsimp only
                  go_simp
                  have h := HK.out _ _ (Below.refl _ _) rfl
                  simp only [upd, Nat.reduceEqDiff, reduceIte, e11] at h
                  exact h
                | 13, ho =>
                  obtain rfl := Option.some.inj ho
                  intro vs W K hB hD hU hK
                  have HK := Lib.hid hK
                  have e11 : vs 11 = .bool false := dep_of hD 11 (by rfl)
                  clear hK hD hU ho
                  dsimp only
                  go_simp
                  have h := HK.out _ _ (Below.refl _ _) rfl
                  simp only [upd, Nat.reduceEqDiff, reduceIte, e11] at h
                  exact h
                | 14, ho =>
                  obtain rfl := Option.some.inj ho
                  intro vs W K hB hD hU hK
                  have HK := Lib.hid hK
                  have e11 : vs 11 = .bool false := dep_of hD 11 (by rfl)
                  clear hK hD hU ho
                  dsimp only
                  go_simp
                  have h := HK.out _ _ (Below.refl _ _) rfl
                  simp only [upd, Nat.reduceEqDiff, reduceIte, e11] at h
                  exact h
                | 15, ho =>
                  obtain rfl := Option.some.inj ho
                  intro vs W K hB hD hU hK
                  have HK := Lib.hid hK
                  have e11 : vs 11 = .bool false := dep_of hD 11 (by rfl)
                  clear hK hD hU ho
                  dsimp only
                  go_simp
                  have h := HK.out _ _ (Below.refl _ _) rfl
                  simp only [upd, Nat.reduceEqDiff, reduceIte, e11] at h
                  exact h
                | 16, ho =>
                  obtain rfl := Option.some.inj ho
                  intro vs W K hB hD hU hK
                  have HK := Lib.hid hK
                  have e11 : vs 11 = .bool false := dep_of hD 11 (by rfl)
                  clear hK hD hU ho
                  dsimp only
                  go_simp
                  have h := HK.out _ _ (Below.refl _ _) rfl
                  simp only [upd, Nat.reduceEqDiff, reduceIte, e11] at h
                  exact h
                | 17, ho =>
                  obtain rfl := Option.some.inj ho
                  intro vs W K hB hD hU hK
                  have HK := Lib.hid hK
                  have e11 : vs 11 = .bool false := dep_of hD 11 (by rfl)
                  clear hK hD hU ho
                  dsimp only
                  go_simp
                  have h := HK.out _ _ (Below.refl _ _) rfl
                  simp only [upd, Nat.reduceEqDiff, reduceIte, e11] at h
                  exact h
                | 18, ho =>
                  obtain rfl := Option.some.inj ho
                  intro vs W K hB hD hU hK
                  have HK := Lib.hid hK
                  have e11 : vs 11 = .bool false := dep_of hD 11 (by rfl)
                  clear hK hD hU ho
                  dsimp only
                  go_simp
                  have h := HK.out _ _ (Below.refl _ _) rfl
                  simp only [upd, Nat.reduceEqDiff, reduceIte, e11] at h
                  exact h
                | 19, ho =>
                  obtain rfl := Option.some.inj ho
                  intro vs W K hB hD hU hK
                  have HK := Lib.hid hK
                  have e11 : vs 11 = .bool false := dep_of hD 11 (by rfl)
                  clear hK hD hU ho
                  dsimp only
                  go_simp
                  have h := HK.out _ _ (Below.refl _ _) rfl
                  simp only [upd, Nat.reduceEqDiff, reduceIte, e11] at h
                  exact h
                | 20, ho =>
                  obtain rfl := Option.some.inj ho
                  intro vs W K hB hD hU hK
                  have HK := Lib.hid hK
                  have e11 : vs 11 = .bool false := dep_of hD 11 (by rfl)
                  clear hK hD hU ho
                  dsimp only
                  go_simp
                  have h := HK.out _ _ (Below.refl _ _) rfl
                  simp only [upd, Nat.reduceEqDiff, reduceIte, e11] at h
                  exact h
                | 21, ho =>
                  obtain rfl := Option.some.inj ho
                  intro vs W K hB hD hU hK
                  have HK := Lib.hid hK
                  have e20 : vs 20 = undef := dep_of hD 20 (by rfl)
                  clear hK hD hU ho
                  dsimp only
                  go_simp
                  have h := HK.out _ _ (Below.refl _ _) rfl
                  simp only [upd, Nat.reduceEqDiff, reduceIte, e20] at h
                  exact h
                | 22, ho =>
                  obtain rfl := Option.some.inj ho
                  intro vs W K hB hD hU hK
                  have HK := Lib.hid hK
                  have e20 : vs 20 = undef := dep_of hD 20 (by rfl)
                  clear hK hD hU ho
                  dsimp only
                  go_simp
                  have h := HK.out _ _ (Below.refl _ _) rfl
                  simp only [upd, Nat.reduceEqDiff, reduceIte, e20] at h
                  exact h
                | 23, ho =>
                  obtain rfl := Option.some.inj ho
                  intro vs W K hB hD hU hK
                  have HK := Lib.hid hK
                  have e20 : vs 20 = undef := dep_of hD 20 (by rfl)
                  clear hK hD hU ho
                  dsimp only
                  go_simp
                  have h := HK.out _ _ (Below.refl _ _) rfl
                  simp only [upd, Nat.reduceEqDiff, reduceIte, e20] at h
                  exact h
                | 24, ho =>
                  obtain rfl := Option.some.inj ho
                  intro vs W K hB hD hU hK
                  have HK := Lib.hid hK
                  have e20 : vs 20 = undef := dep_of hD 20 (by rfl)
                  clear hK hD hU ho
                  dsimp only
                  go_simp
                  have h := HK.out _ _ (Below.refl _ _) rfl
                  simp only [upd, Nat.reduceEqDiff, reduceIte, e20] at h
                  exact h
                | 25, ho =>
                  obtain rfl := Option.some.inj ho
                  intro vs W K hB hD hU hK
                  have HK := Lib.hid hK
                  have e20 : vs 20 = undef := dep_of hD 20 (by rfl)
                  clear hK hD hU ho
                  dsimp only
                  go_simp
                  have h := HK.out _ _ (Below.refl _ _) rfl
                  simp only [upd, Nat.reduceEqDiff, reduceIte, e20] at h
                  exact h
                | 26, ho =>
                  obtain rfl := Option.some.inj ho
                  intro vs W K hB hD hU hK
                  have HK := Lib.hid hK
                  have e20 : vs 20 = undef := dep_of hD 20 (by rfl)
                  clear hK hD hU ho
                  dsimp only
                  go_simp
                  have h := HK.out _ _ (Below.refl _ _) rfl
                  simp only [upd, Nat.reduceEqDiff, reduceIte, e20] at h
                  exact h
                | 27, ho =>
                  obtain rfl := Option.some.inj ho
                  intro vs W K hB hD hU hK
                  have HK := Lib.hid hK
                  have e20 : vs 20 = undef := dep_of hD 20 (by rfl)
                  clear hK hD hU ho
                  dsimp only
                  go_simp
                  have h := HK.out _ _ (Below.refl _ _) rfl
                  simp only [upd, Nat.reduceEqDiff, reduceIte, e20] at h
                  exact h
                | 28, ho =>
                  obtain rfl := Option.some.inj ho
                  intro vs W K hB hD hU hK
                  have HK := Lib.hid hK
                  have e20 : vs 20 = undef := dep_of hD 20 (by rfl)
                  clear hK hD hU ho
                  dsimp only
                  go_simp
                  have h := HK.out _ _ (Below.refl _ _) rfl
                  simp only [upd, Nat.reduceEqDiff, reduceIte, e20] at h
                  exact h
                | 29, ho =>
                  obtain rfl := Option.some.inj ho
                  intro vs W K hB hD hU hK
                  have HK := Lib.hid hK
                  have e11 : vs 11 = .bool false := dep_of hD 11 (by rfl)
                  clear hK hD hU ho
                  dsimp only
                  go_simp
                  have h := HK.out _ _ (Below.refl _ _) rfl
                  simp only [upd, Nat.reduceEqDiff, reduceIte, e11] at h
                  exact h
                | 30, ho =>
                  obtain rfl := Option.some.inj ho
                  intro vs W K hB hD hU hK
                  have HK := Lib.hid hK
                  have e9 : vs 9 = .bool false := dep_of hD 9 (by rfl)
                  have e11 : vs 11 = .bool false := dep_of hD 11 (by rfl)
                  have e29 : vs 29 = undef := dep_of hD 29 (by rfl)
                  clear hK hD hU ho
                  dsimp only
                  go_simp
                  have h := HK.out _ _ (Below.refl _ _) rfl
                  simp only [upd, Nat.reduceEqDiff, reduceIte, e9, e11, e29] at h
                  exact h
                | 31, ho =>
                  obtain rfl := Option.some.inj ho
                  intro vs W K hB hD hU hK
                  have HK := Lib.hid hK
                  have e9 : vs 9 = .bool false := dep_of hD 9 (by rfl)
                  have e30 : vs 30 = .bool false := dep_of hD 30 (by rfl)
                  clear hK hD hU ho
                  dsimp only
                  go_simp
                  have h := HK.out _ _ (Below.refl _ _) rfl
                  simp only [upd, Nat.reduceEqDiff, reduceIte, e9, e30] at h
                  exact h
                | q + 32, ho => exact absurd ho (by simp)
              case fin =>
                intro vs W hB hall
                have e31 : vs 31 = .bool false := hall 31 (by decide)
                have hB3 := (Below.drew (B := wr.heap.size) (Below.refl _ wr)).trans hB
                clear hall hB
                rw [e31]
                clear e31
                generalize vs 0 = z0q
                generalize vs 1 = z1q
                generalize vs 2 = z2q
                generalize vs 3 = z3q
                generalize vs 4 = z4q
                generalize vs 5 = z5q
                generalize vs 6 = z6q
                generalize vs 7 = z7q
                generalize vs 8 = z8q
                generalize vs 9 = z9q
                generalize vs 10 = z10q
                generalize vs 11 = z11q
                generalize vs 12 = z12q
                generalize vs 13 = z13q
                generalize vs 14 = z14q
                generalize vs 15 = z15q
                generalize vs 16 = z16q
                generalize vs 17 = z17q
                generalize vs 18 = z18q
                generalize vs 19 = z19q
                generalize vs 20 = z20q
                generalize vs 21 = z21q
                generalize vs 22 = z22q
                generalize vs 23 = z23q
                generalize vs 24 = z24q
                generalize vs 25 = z25q
                generalize vs 26 = z26q
                generalize vs 27 = z27q
                generalize vs 28 = z28q
                generalize vs 29 = z29q
                generalize vs 30 = z30q
                clear vs
                have hBn := hB.step hB3
                clear hB3 d0 d1 d2 c00 c20 cS0 cT0
                clear hB HBW HT HZ HFF
                go_wp2
                go_loopg [8, 11] sl.length (fun gh r i wi => ∃ j : Nat, gh = sl.length - j ∧ i = .int .i64 j ∧ r = .bool false ∧ wi = W ∧ j ≤ sl.length ∧ Hid ((sl.take j).all (fun x => set.getD x.toNat false) = true))
                case atStart => exact ⟨0, rfl, rfl, rfl, rfl, by omega, by simp [Hid]⟩
                case round =>
                  obtain ⟨j, hgj, rfl, rfl, rfl, hj, HA⟩ := hrel
                  have HGJ := Lib.hid hgj
                  clear hgj
                  have d2 := hBn.cell 2 rfl
                  have c2n := H2.out k hlt _ hBn.bl
                  rw [HVV.out] at c2n
                  have cSn := HS0.out k hlt _ hBn.bl
                  rw [HQ.out] at cSn
                  by_cases hjl : j < sl.length
                  · have hjI : (j : Int) < (sl.length : Int) := by omega
                    obtain ⟨bV, oV, hdV, mV, ddV⟩ := (HIV.out _ hBn.bl).data
                    obtain rfl := hdV (by omega)
                    have cV0 := ddV j hjl
                    clear hdV ddV
                    obtain ⟨hy0, hyR⟩ := HVS.out (sl.getD j 0) (by rw [getD_lt _ _ _ hjl]; exact List.getElem_mem hjl)
                    have HTS := Lib.hid (take_all_succ (fun x => set.getD x.toNat false) sl j hjl)
                    have HTF := Lib.hid (all_false_at (fun x => set.getD x.toNat false) sl j hjl)
                    generalize sl.getD j 0 = yi at *
                    obtain ⟨y, rfl⟩ : ∃ y : Nat, yi = y := ⟨yi.toNat, by omega⟩
                    have hyn : y < R := by omega
                    have cSy := HS0.out y hyn _ hBn.bl
                    rw [Int.toNat_natCast] at HTS HTF
                    cases hsy : set.getD y false
                    · have HSY := Lib.hid hsy
                      rw [hsy] at cSy
                      clear hsy
                      go_wp2
                      go_ret
                      exact ⟨ret_bool (by rw [HF.out, rangeA_false _ _ k hlt (by rw [HKB.out, HTF.out HSY.out]; simp)]), hBn.bl⟩
                    · have HSY := Lib.hid hsy
                      rw [hsy] at cSy
                      clear hsy
                      go_wp2
                      go_roundg (sl.length - (j + 1))
                      case measure => have := HGJ.out; omega
                      case rel => exact ⟨j + 1, rfl, by go_num, rfl, rfl, by omega, by show _ = _; rw [HTS.out, HA.out, HSY.out]; rfl⟩
                  · obtain rfl : j = sl.length := by omega
                    go_wp2
                    go_roundg (R - (k + 1))
                    case measure => have := HGK.out; omega
                    case rel => exact ⟨k + 1, rfl, by go_num, rfl, by omega, hBn, by show _ = _; rw [rangeA_succ, HE.out, HKB.out, show (x == -1) = true by have := HSE.out; simpa using this]; have := HA.out; rw [List.take_length] at this; rw [this]; rfl⟩
            · have HSE := Lib.hid hse
              clear hse
              refine region_stable0 hmx (RV7a w.heap.size b0 o0 R c0 a1 n1 c1 b2 o2 c2 bT oT cT bS oS cS k x 0) (fun vs => { tmps := (_ :: _ :: _ :: _ :: _ :: _ :: _ :: _ :: _ :: _ :: _ :: _ :: _ :: _ :: _ :: _ :: _ :: _ :: _ :: _ :: _ :: _ :: _ :: _ :: _ :: _ :: _ :: _ :: _ :: _ :: _ :: _ :: _ :: _ :: _ :: _ :: _ :: _ :: _ :: _ :: _ :: _ :: _ :: _ :: _ :: _ :: _ :: _ :: _ :: _ :: _ :: _ :: _ :: _ :: _ :: _ :: _ :: _ :: vs 0 :: vs 1 :: vs 2 :: vs 3 :: vs 4 :: vs 5 :: vs 6 :: vs 7 :: vs 8 :: vs 9 :: vs 10 :: vs 11 :: vs 12 :: vs 13 :: vs 14 :: vs 15 :: vs 16 :: vs 17 :: vs 18 :: vs 19 :: vs 20 :: vs 21 :: vs 22 :: vs 23 :: vs 24 :: vs 25 :: vs 26 :: vs 27 :: vs 28 :: vs 29 :: vs 30 :: vs 31 :: _ :: _ :: _ :: _ :: _ :: _ :: _ :: _ :: _ :: _ :: _ :: _ :: _ :: _ :: _ :: _ :: _ :: _ :: _ :: _ :: _ :: _ :: _ :: _ :: _ :: _ :: _ :: _ :: _ :: _ :: _ :: _ :: []).toArray, defers := _ }) (fun n => [u58, u59, u60, u61, u62, u63, u64, u65, u66, u67, u68, u69, u70, u71, u72, u73, u74, u75, u76, u77, u78, u79, u80, u81, u82, u83, u84, u85, u86, u87, u88, u89].getD n undef) rfl (by kernel_rfl) (fun _ _ _ _ h _ => h) ?step ?fin
              case step =>
                intro ix o ho
                match ix, ho with
                | 0, ho =>
                  obtain rfl := Option.some.inj ho
                  intro vs W K hB hD hU hK
                  have HK := Lib.hid hK
                  clear hK hD hU ho
                  dsimp only
                  go_simp
                  have h := HK.out _ _ (Below.refl _ _) rfl
                  simp only [upd, Nat.reduceEqDiff, reduceIte] at h
                  exact h
                | 1, ho =>
                  obtain rfl := Option.some.inj ho
                  intro vs W K hB hD hU hK
                  have HK := Lib.hid hK
                  have e0 : vs 0 = .bool false := dep_of hD 0 (by rfl)
                  clear hK hD hU ho
                  dsimp only
                  go_simp
                  have h := HK.out _ _ (Below.refl _ _) rfl
                  simp only [upd, Nat.reduceEqDiff, reduceIte, e0] at h
                  exact h
                | 2, ho =>
                  obtain rfl := Option.some.inj ho
                  intro vs W K hB hD hU hK
                  have HK := Lib.hid hK
                  have e1 : vs 1 = .bool true := dep_of hD 1 (by rfl)
                  clear hK hD hU ho
                  dsimp only
                  go_simp
                  have h := HK.out _ _ (Below.refl _ _) rfl
                  simp only [upd, Nat.reduceEqDiff, reduceIte, e1] at h
                  exact h
                | 3, ho =>
                  obtain rfl := Option.some.inj ho
                  intro vs W K hB hD hU hK
                  have HK := Lib.hid hK
                  have e2 : vs 2 = .bool true := dep_of hD 2 (by rfl)
                  clear hK hD hU ho
                  dsimp only
                  go_simp
                  have h := HK.out _ _ (Below.refl _ _) rfl
                  simp only [upd, Nat.reduceEqDiff, reduceIte, e2] at h
                  exact h
                | 4, ho =>
                  obtain rfl := Option.some.inj ho
                  intro vs W K hB hD hU hK
                  have HK := Lib.hid hK
                  have e2 : vs 2 = .bool true := dep_of hD 2 (by rfl)
                  clear hK hD hU ho
                  dsimp only
                  go_simp
                  have h := HK.out _ _ (Below.refl _ _) rfl
                  simp only [upd, Nat.reduceEqDiff, reduceIte, e2] at h
                  exact h
                | 5, ho =>
                  obtain rfl := Option.some.inj ho
                  intro vs W K hB hD hU hK
                  have HK := Lib.hid hK
                  have e2 : vs 2 = .bool true := dep_of hD 2 (by rfl)
                  have e3 : vs 3 = .slice (some ⟨bT, oT, none⟩) R cT := dep_of hD 3 (by rfl)
                  have e4 : vs 4 = .int .i64 k := dep_of hD 4 (by rfl)
                  clear hK hD hU ho
                  dsimp only
                  go_simp
                  have h := HK.out _ _ (Below.refl _ _) rfl
                  simp only [upd, Nat.reduceEqDiff, reduceIte, e2, e3, e4] at h
                  exact h
                | 6, ho =>
                  obtain rfl := Option.some.inj ho
                  intro vs W K hB hD hU hK
                  have HK := Lib.hid hK
                  have e2 : vs 2 = .bool true := dep_of hD 2 (by rfl)
                  have e5 : vs 5 = .pointer (some ⟨bT, oT + k, none⟩) := dep_of hD 5 (by rfl)
                  have cT := HT.out W hB
                  clear hK hD hU ho
                  dsimp only
                  go_simp
                  have h := HK.out _ _ (Below.refl _ _) rfl
                  simp only [upd, Nat.reduceEqDiff, reduceIte, e2, e5] at h
                  exact h
                | 7, ho =>
                  obtain rfl := Option.some.inj ho
                  intro vs W K hB hD hU hK
                  have HK := Lib.hid hK
                  have e2 : vs 2 = .bool true := dep_of hD 2 (by rfl)
                  have e6 : vs 6 = .int .i64 x := dep_of hD 6 (by rfl)
                  have hse := HSE.out
                  clear hK hD hU ho
                  dsimp only
                  go_simp
                  have h := HK.out _ _ (Below.refl _ _) rfl
                  simp only [upd, Nat.reduceEqDiff, reduceIte, e2, e6] at h
                  exact h
                | 8, ho =>
                  obtain rfl := Option.some.inj ho
                  intro vs W K hB hD hU hK
                  have HK := Lib.hid hK
                  have e2 : vs 2 = .bool true := dep_of hD 2 (by rfl)
                  have e7 : vs 7 = .bool true := dep_of hD 7 (by rfl)
                  clear hK hD hU ho
                  dsimp only
                  go_simp
                  have h := HK.out _ _ (Below.refl _ _) rfl
                  simp only [upd, Nat.reduceEqDiff, reduceIte, e2, e7] at h
                  exact h
                | 9, ho =>
                  obtain rfl := Option.some.inj ho
                  intro vs W K hB hD hU hK
                  have HK := Lib.hid hK
                  have e8 : vs 8 = .bool true := dep_of hD 8 (by rfl)
                  clear hK hD hU ho
                  dsimp only
                  go_simp
                  have h := HK.out _ _ (Below.refl _ _) rfl
                  simp only [upd, Nat.reduceEqDiff, reduceIte, e8] at h
                  exact h
                | 10, ho =>
                  obtain rfl := Option.some.inj ho
                  intro vs W K hB hD hU hK
                  have HK := Lib.hid hK
                  have e9 : vs 9 = .bool true := dep_of hD 9 (by rfl)
                  clear hK hD hU ho
                  dsimp only
                  go_simp
                  have h := HK.out _ _ (Below.refl _ _) rfl
                  simp only [upd, Nat.reduceEqDiff, reduceIte, e9] at h
                  exact h
                | 11, ho =>
                  obtain rfl := Option.some.inj ho
                  intro vs W K hB hD hU hK
                  have HK := Lib.hid hK
                  have e9 : vs 9 = .bool true := dep_of hD 9 (by rfl)
                  clear hK hD hU ho
                  dsimp only
                  go_simp
                  have h := HK.out _ _ (Below.refl _ _) rfl
                  simp only [upd, Nat.reduceEqDiff, reduceIte, e9] at h
                  exact h
                | 12, ho =>
                  obtain rfl := Option.some.inj ho
                  intro vs W K hB hD hU hK
                  have HK := Lib.hid hK
                  have e11 : vs 11 = undef := dep_of hD 11 (by rfl)
                  clear hK hD hU ho
                  dsimp only
                  go_simp
                  have h := HK.out _ _ (Below.refl _ _) rfl
                  simp only [upd, Nat.reduceEqDiff, reduceIte, e11] at h
                  exact h
                | 13, ho =>
                  obtain rfl := Option.some.inj ho
                  intro vs W K hB hD hU hK
                  have HK := Lib.hid hK
                  have e11 : vs 11 = undef := dep_of hD 11 (by rfl)
                  clear hK hD hU ho
                  dsimp only
                  go_simp
                  have h := HK.out _ _ (Below.refl _ _) rfl
                  simp only [upd, Nat.reduceEqDiff, reduceIte, e11] at h
                  exact h
                | 14, ho =>
                  obtain rfl := Option.some.inj ho
                  intro vs W K hB hD hU hK
                  have HK := Lib.hid hK
                  have e11 : vs 11 = undef := dep_of hD 11 (by rfl)
                  clear hK hD hU ho
                  dsimp only
                  go_simp
                  have h := HK.out _ _ (Below.refl _ _) rfl
                  simp only [upd, Nat.reduceEqDiff, reduceIte, e11] at h
                  exact h
                | 15, ho =>
                  obtain rfl := Option.some.inj ho
                  intro vs W K hB hD hU hK
                  have HK := Lib.hid hK
                  have e11 : vs 11 = undef := dep_of hD 11 (by rfl)
                  clear hK hD hU ho
                  dsimp only
                  go_simp
                  have h := HK.out _ _ (Below.refl _ _) rfl
                  simp only [upd, Nat.reduceEqDiff, reduceIte, e11] at h
                  exact h
                | 16, ho =>
                  obtain rfl := Option.some.inj ho
                  intro vs W K hB hD hU hK
                  have HK := Lib.hid hK
                  have e11 : vs 11 = undef := dep_of hD 11 (by rfl)
                  clear hK hD hU ho
                  dsimp only
                  go_simp
                  have h := HK.out _ _ (Below.refl _ _) rfl
                  simp only [upd, Nat.reduceEqDiff, reduceIte, e11] at h
                  exact h
                | 17, ho =>
                  obtain rfl := Option.some.inj ho
                  intro vs W K hB hD hU hK
                  have HK := Lib.hid hK
                  have e11 : vs 11 = undef := dep_of hD 11 (by rfl)
                  clear hK hD hU ho
                  dsimp only
                  go_simp
                  have h := HK.out _ _ (Below.refl _ _) rfl
                  simp only [upd, Nat.reduceEqDiff, reduceIte, e11] at h
                  exact h
                | 18, ho =>
                  obtain rfl := Option.some.inj ho
                  intro vs W K hB hD hU hK
                  have HK := Lib.hid hK
                  have e11 : vs 11 = undef := dep_of hD 11 (by rfl)
                  clear hK hD hU ho
                  dsimp only
                  go_simp
                  have h := HK.out _ _ (Below.refl _ _) rfl
                  simp only [upd, Nat.reduceEqDiff, reduceIte, e11] at h
                  exact h
                | 19, ho =>
                  obtain rfl := Option.some.inj ho
                  intro vs W K hB hD hU hK
                  have HK := Lib.hid hK
                  have e11 : vs 11 = undef := dep_of hD 11 (by rfl)
                  clear hK hD hU ho
                  dsimp only
                  go_simp
                  have h := HK.out _ _ (Below.refl _ _) rfl
                  simp only [upd, Nat.reduceEqDiff, reduceIte, e11] at h
                  exact h
                | 20, ho =>
                  obtain rfl := Option.some.inj ho
                  intro vs W K hB hD hU hK
                  have HK := Lib.hid hK
                  have e11 : vs 11 = undef := dep_of hD 11 (by rfl)
                  clear hK hD hU ho
                  dsimp only
                  go_simp
                  have h := HK.out _ _ (Below.refl _ _) rfl
                  simp only [upd, Nat.reduceEqDiff, reduceIte, e11] at h
                  exact h
                | 21, ho =>
                  obtain rfl := Option.some.inj ho
                  intro vs W K hB hD hU hK
                  have HK := Lib.hid hK
                  have e20 : vs 20 = undef := dep_of hD 20 (by rfl)
                  clear hK hD hU ho
                  dsimp only
                  go_simp
                  have h := HK.out _ _ (Below.refl _ _) rfl
                  simp only [upd, Nat.reduceEqDiff, reduceIte, e20] at h
                  exact h
                | 22, ho =>
                  obtain rfl := Option.some.inj ho
                  intro vs W K hB hD hU hK
                  have HK := Lib.hid hK
                  have e20 : vs 20 = undef := dep_of hD 20 (by rfl)
                  clear hK hD hU ho
                  dsimp only
                  go_simp
                  have h := HK.out _ _ (Below.refl _ _) rfl
                  simp only [upd, Nat.reduceEqDiff, reduceIte, e20] at h
                  exact h
                | 23, ho =>
                  obtain rfl := Option.some.inj ho
                  intro vs W K hB hD hU hK
                  have HK := Lib.hid hK
                  have e20 : vs 20 = undef := dep_of hD 20 (by rfl)
                  clear hK hD hU ho
                  dsimp only
                  go_simp
                  have h := HK.out _ _ (Below.refl _ _) rfl
                  simp only [upd, Nat.reduceEqDiff, reduceIte, e20] at h
                  exact h
                | 24, ho =>
                  obtain rfl := Option.some.inj ho
                  intro vs W K hB hD hU hK
                  have HK := Lib.hid hK
                  have e20 : vs 20 = undef := dep_of hD 20 (by rfl)
                  clear hK hD hU ho
                  dsimp only
                  go_simp
                  have h := HK.out _ _ (Below.refl _ _) rfl
                  simp only [upd, Nat.reduceEqDiff, reduceIte, e20] at h
                  exact h
                | 25, ho =>
                  obtain rfl := Option.some.inj ho
                  intro vs W K hB hD hU hK
                  have HK := Lib.hid hK
                  have e20 : vs 20 = undef := dep_of hD 20 (by rfl)
                  clear hK hD hU ho
                  dsimp only
                  go_simp
                  have h := HK.out _ _ (Below.refl _ _) rfl
                  simp only [upd, Nat.reduceEqDiff, reduceIte, e20] at h
                  exact h
                | 26, ho =>
                  obtain rfl := Option.some.inj ho
                  intro vs W K hB hD hU hK
                  have HK := Lib.hid hK
                  have e20 : vs 20 = undef := dep_of hD 20 (by rfl)
                  clear hK hD hU ho
                  dsimp only
                  go_simp
                  have h := HK.out _ _ (Below.refl _ _) rfl
                  simp only [upd, Nat.reduceEqDiff, reduceIte, e20] at h
                  exact h
                | 27, ho =>
                  obtain rfl := Option.some.inj ho
                  intro vs W K hB hD hU hK
                  have HK := Lib.hid hK
                  have e20 : vs 20 = undef := dep_of hD 20 (by rfl)
                  clear hK hD hU ho
                  dsimp only
                  go_simp
                  have h := HK.out _ _ (Below.refl _ _) rfl
                  simp only [upd, Nat.reduceEqDiff, reduceIte, e20] at h
                  exact h
                | 28, ho =>
                  obtain rfl := Option.some.inj ho
                  intro vs W K hB hD hU hK
                  have HK := Lib.hid hK
                  have e20 : vs 20 = undef := dep_of hD 20 (by rfl)
                  clear hK hD hU ho
                  dsimp only
                  go_simp
                  have h := HK.out _ _ (Below.refl _ _) rfl
                  simp only [upd, Nat.reduceEqDiff, reduceIte, e20] at h
                  exact h
                | 29, ho =>
                  obtain rfl := Option.some.inj ho
                  intro vs W K hB hD hU hK
                  have HK := Lib.hid hK
                  have e11 : vs 11 = undef := dep_of hD 11 (by rfl)
                  clear hK hD hU ho
                  dsimp only
                  go_simp
                  have h := HK.out _ _ (Below.refl _ _) rfl
                  simp only [upd, Nat.reduceEqDiff, reduceIte, e11] at h
                  exact h
                | 30, ho =>
                  obtain rfl := Option.some.inj ho
                  intro vs W K hB hD hU hK
                  have HK := Lib.hid hK
                  have e9 : vs 9 = .bool true := dep_of hD 9 (by rfl)
                  clear hK hD hU ho
                  dsimp only
                  go_simp
                  have h := HK.out _ _ (Below.refl _ _) rfl
                  simp only [upd, Nat.reduceEqDiff, reduceIte, e9] at h
                  exact h
                | 31, ho =>
                  obtain rfl := Option.some.inj ho
                  intro vs W K hB hD hU hK
                  have HK := Lib.hid hK
                  have e9 : vs 9 = .bool true := dep_of hD 9 (by rfl)
                  have e30 : vs 30 = undef := dep_of hD 30 (by rfl)
                  clear hK hD hU ho
                  dsimp only
                  go_simp
                  have h := HK.out _ _ (Below.refl _ _) rfl
                  simp only [upd, Nat.reduceEqDiff, reduceIte, e9, e30] at h
                  exact h
                | q + 32, ho => exact absurd ho (by simp)
              case fin =>
                intro vs W hB hall
                have e31 : vs 31 = .bool true := hall 31 (by decide)
                have hB3 := (Below.drew (B := wr.heap.size) (Below.refl _ wr)).trans hB
                clear hall hB
                rw [e31]
                clear e31
                generalize vs 0 = z0q
                generalize vs 1 = z1q
                generalize vs 2 = z2q
                generalize vs 3 = z3q
                generalize vs 4 = z4q
                generalize vs 5 = z5q
                generalize vs 6 = z6q
                generalize vs 7 = z7q
                generalize vs 8 = z8q
                generalize vs 9 = z9q
                generalize vs 10 = z10q
                generalize vs 11 = z11q
                generalize vs 12 = z12q
                generalize vs 13 = z13q
                generalize vs 14 = z14q
                generalize vs 15 = z15q
                generalize vs 16 = z16q
                generalize vs 17 = z17q
                generalize vs 18 = z18q
                generalize vs 19 = z19q
                generalize vs 20 = z20q
                generalize vs 21 = z21q
                generalize vs 22 = z22q
                generalize vs 23 = z23q
                generalize vs 24 = z24q
                generalize vs 25 = z25q
                generalize vs 26 = z26q
                generalize vs 27 = z27q
                generalize vs 28 = z28q
                generalize vs 29 = z29q
                generalize vs 30 = z30q
                clear vs
                have hBn := hB.step hB3
                go_wp2
                go_ret
                exact ⟨ret_bool (by rw [HF.out, rangeA_false _ _ k hlt (by rw [HKB.out, show (x == -1) = false by have := HSE.out; simpa using this]; rfl)]), hBn.bl⟩
          · have HKB := Lib.hid (HKW.out hq ho)
            clear HKO HKW HKT
            go_upto_region 7 with (fail)
            have hmx : Try.prog.follows .mixedOrders = true := by kernel_rfl
            clear hq ho
            by_cases hm : x ∈ sl
            · obtain ⟨hx0, hxR⟩ := HVS.out x hm
              obtain ⟨y, rfl⟩ : ∃ y : Nat, x = y := ⟨x.toNat, by omega⟩
              have hyn : y < R := by omega
              rw [show decide ((y : Int) ∈ sl) = true by simp [hm]] at HFF HKB
              rw [Int.toNat_natCast] at HKB
              have HY := Lib.hid (show (y : Int) = y ∧ y < R ∧ (y : Int) < R from ⟨rfl, hyn, by omega⟩)
              clear hm
              have HSy : Hid (∀ W, Below wr.drew.heap.size wr.drew W → W.cell? ⟨bS, oS + y, none⟩ = some (.bool (set.getD y false))) := fun W h => HS0.out y hyn W (HBW.out W h)
              cases hsy : set.getD y false
              · rw [hsy] at HSy HKB
                have HS := HSy
                clear hsy HSy
                refine region_stable0 hmx (RV7d w.heap.size b0 o0 R c0 a1 n1 c1 b2 o2 c2 bT oT cT bS oS cS k y y) (fun vs => { tmps := (_ :: _ :: _ :: _ :: _ :: _ :: _ :: _ :: _ :: _ :: _ :: _ :: _ :: _ :: _ :: _ :: _ :: _ :: _ :: _ :: _ :: _ :: _ :: _ :: _ :: _ :: _ :: _ :: _ :: _ :: _ :: _ :: _ :: _ :: _ :: _ :: _ :: _ :: _ :: _ :: _ :: _ :: _ :: _ :: _ :: _ :: _ :: _ :: _ :: _ :: _ :: _ :: _ :: _ :: _ :: _ :: _ :: _ :: vs 0 :: vs 1 :: vs 2 :: vs 3 :: vs 4 :: vs 5 :: vs 6 :: vs 7 :: vs 8 :: vs 9 :: vs 10 :: vs 11 :: vs 12 :: vs 13 :: vs 14 :: vs 15 :: vs 16 :: vs 17 :: vs 18 :: vs 19 :: vs 20 :: vs 21 :: vs 22 :: vs 23 :: vs 24 :: vs 25 :: vs 26 :: vs 27 :: vs 28 :: vs 29 :: vs 30 :: vs 31 :: _ :: _ :: _ :: _ :: _ :: _ :: _ :: _ :: _ :: _ :: _ :: _ :: _ :: _ :: _ :: _ :: _ :: _ :: _ :: _ :: _ :: _ :: _ :: _ :: _ :: _ :: _ :: _ :: _ :: _ :: _ :: _ :: []).toArray, defers := _ }) (fun n => [u58, u59, u60, u61, u62, u63, u64, u65, u66, u67, u68, u69, u70, u71, u72, u73, u74, u75, u76, u77, u78, u79, u80, u81, u82, u83, u84, u85, u86, u87, u88, u89].getD n undef) rfl (by kernel_rfl) (fun _ _ _ _ h _ => h) ?step ?fin
                case step =>
                  intro ix o ho
                  match ix, ho with
                  | 0, ho =>
                    obtain rfl := Option.some.inj ho
                    intro vs W K hB hD hU hK
                    have HK := Lib.hid hK
                    clear hK hD hU ho
                    dsimp only
                    go_simp
                    have h := HK.out _ _ (Below.refl _ _) rfl
                    simp only [upd, Nat.reduceEqDiff, reduceIte] at h
                    exact h
                  | 1, ho =>
                    obtain rfl := Option.some.inj ho
                    intro vs W K hB hD hU hK
                    have HK := Lib.hid hK
                    have e0 : vs 0 = .bool true := dep_of hD 0 (by rfl)
                    clear hK hD hU ho
                    dsimp only
                    go_simp
                    have h := HK.out _ _ (Below.refl _ _) rfl
                    simp only [upd, Nat.reduceEqDiff, reduceIte, e0] at h
                    exact h
                  | 2, ho =>
                    obtain rfl := Option.some.inj ho
                    intro vs W K hB hD hU hK
                    have HK := Lib.hid hK
                    have e1 : vs 1 = .bool false := dep_of hD 1 (by rfl)
                    clear hK hD hU ho
                    dsimp only
                    go_simp
                    have h := HK.out _ _ (Below.refl _ _) rfl
                    simp only [upd, Nat.reduceEqDiff, reduceIte, e1] at h
                    exact h
                  | 3, ho =>
                    obtain rfl := Option.some.inj ho
                    intro vs W K hB hD hU hK
                    have HK := Lib.hid hK
                    have e2 : vs 2 = .bool false := dep_of hD 2 (by rfl)
                    clear hK hD hU ho
                    dsimp only
                    go_simp
                    have h := HK.out _ _ (Below.refl _ _) rfl
                    simp only [upd, Nat.reduceEqDiff, reduceIte, e2] at h
                    exact h
                  | 4, ho =>
                    obtain rfl := Option.some.inj ho
                    intro vs W K hB hD hU hK
                    have HK := Lib.hid hK
                    have e2 : vs 2 = .bool false := dep_of hD 2 (by rfl)
                    clear hK hD hU ho
                    dsimp only
                    go_simp
                    have h := HK.out _ _ (Below.refl _ _) rfl
                    simp only [upd, Nat.reduceEqDiff, reduceIte, e2] at h
                    exact h
                  | 5, ho =>
                    obtain rfl := Option.some.inj ho
                    intro vs W K hB hD hU hK
                    have HK := Lib.hid hK
                    have e2 : vs 2 = .bool false := dep_of hD 2 (by rfl)
                    clear hK hD hU ho
                    dsimp only
                    go_simp
                    have h := HK.out _ _ (Below.refl _ _) rfl
                    simp only [upd, Nat.reduceEqDiff, reduceIte, e2] at h
                    exact h
                  | 6, ho =>
                    obtain rfl := Option.some.inj ho
                    intro vs W K hB hD hU hK
                    have HK := Lib.hid hK
                    have e2 : vs 2 = .bool false := dep_of hD 2 (by rfl)
                    clear hK hD hU ho
                    dsimp only
                    go_simp
                    have h := HK.out _ _ (Below.refl _ _) rfl
                    simp only [upd, Nat.reduceEqDiff, reduceIte, e2] at h
                    exact h
                  | 7, ho =>
                    obtain rfl := Option.some.inj ho
                    intro vs W K hB hD hU hK
                    have HK := Lib.hid hK
                    have e2 : vs 2 = .bool false := dep_of hD 2 (by rfl)
                    clear hK hD hU ho
                    dsimp only
                    go_simp
                    have h := HK.out _ _ (Below.refl _ _) rfl
                    simp only [upd, Nat.reduceEqDiff, reduceIte, e2] at h
                    exact h
                  | 8, ho =>
                    obtain rfl := Option.some.inj ho
                    intro vs W K hB hD hU hK
                    have HK := Lib.hid hK
                    have e2 : vs 2 = .bool false := dep_of hD 2 (by rfl)
                    have e7 : vs 7 = undef := dep_of hD 7 (by rfl)
                    clear hK hD hU ho
                    dsimp only
                    go_simp
                    have h := HK.out _ _ (Below.refl _ _) rfl
                    simp only [upd, Nat.reduceEqDiff, reduceIte, e2, e7] at h
                    exact h
                  | 9, ho =>
                    obtain rfl := Option.some.inj ho
                    intro vs W K hB hD hU hK
                    have HK := Lib.hid hK
                    have e8 : vs 8 = .bool false := dep_of hD 8 (by rfl)
                    clear hK hD hU ho
                    dsimp only
                    go_simp
                    have h := HK.out _ _ (Below.refl _ _) rfl
                    simp only [upd, Nat.reduceEqDiff, reduceIte, e8] at h
                    exact h
                  | 10, ho =>
                    obtain rfl := Option.some.inj ho
                    intro vs W K hB hD hU hK
                    have HK := Lib.hid hK
                    have e9 : vs 9 = .bool false := dep_of hD 9 (by rfl)
                    clear hK hD hU ho
                    dsimp only
                    go_simp
                    have h := HK.out _ _ (Below.refl _ _) rfl
                    simp only [upd, Nat.reduceEqDiff, reduceIte, e9] at h
                    exact h
                  | 11, ho =>
                    obtain rfl := Option.some.inj ho
                    intro vs W K hB hD hU hK
                    have HK := Lib.hid hK
                    have e9 : vs 9 = .bool false := dep_of hD 9 (by rfl)
                    have e10 : vs 10 = .bool true := dep_of hD 10 (by rfl)
                    clear hK hD hU ho
                    dsimp only
                    go_simp
                    have h := HK.out _ _ (Below.refl _ _) rfl
                    simp only [upd, Nat.reduceEqDiff, reduceIte, e9, e10] at h
                    exact h
                  | 12, ho =>
                    obtain rfl := Option.some.inj ho
                    intro vs W K hB hD hU hK
                    have HK := Lib.hid hK
                    have e11 : vs 11 = .bool true := dep_of hD 11 (by rfl)
                    obtain ⟨d0, d1, d2⟩ := HZ.out W hB
                    clear hK hD hU ho
                    dsimp only
                    go_simp
                    have h := HK.out _ _ (Below.refl _ _) rfl
                    simp only [upd, Nat.reduceEqDiff, reduceIte, e11] at h
                    exact h
                  | 13, ho =>
                    obtain rfl := Option.some.inj ho
                    intro vs W K hB hD hU hK
                    have HK := Lib.hid hK
                    have e11 : vs 11 = .bool true := dep_of hD 11 (by rfl)
                    clear hK hD hU ho
                    dsimp only
                    go_simp
                    have h := HK.out _ _ (Below.refl _ _) rfl
                    simp only [upd, Nat.reduceEqDiff, reduceIte, e11] at h
                    exact h
                  | 14, ho =>
                    obtain rfl := Option.some.inj ho
                    intro vs W K hB hD hU hK
                    have HK := Lib.hid hK
                    have e11 : vs 11 = .bool true := dep_of hD 11 (by rfl)
                    clear hK hD hU ho
                    dsimp only
                    go_simp
                    have h := HK.out _ _ (Below.refl _ _) rfl
                    simp only [upd, Nat.reduceEqDiff, reduceIte, e11] at h
                    exact h
                  | 15, ho =>
                    obtain rfl := Option.some.inj ho
                    intro vs W K hB hD hU hK
                    have HK := Lib.hid hK
                    have e11 : vs 11 = .bool true := dep_of hD 11 (by rfl)
                    clear hK hD hU ho
                    dsimp only
                    go_simp
                    have h := HK.out _ _ (Below.refl _ _) rfl
                    simp only [upd, Nat.reduceEqDiff, reduceIte, e11] at h
                    exact h
                  | 16, ho =>
                    obtain rfl := Option.some.inj ho
                    intro vs W K hB hD hU hK
                    have HK := Lib.hid hK
                    have e11 : vs 11 = .bool true := dep_of hD 11 (by rfl)
                    have e14 : vs 14 = .slice (some ⟨bT, oT, none⟩) R cT := dep_of hD 14 (by rfl)
                    have e15 : vs 15 = .int .i64 k := dep_of hD 15 (by rfl)
                    clear hK hD hU ho
                    dsimp only
                    go_simp
                    have h := HK.out _ _ (Below.refl _ _) rfl
                    simp only [upd, Nat.reduceEqDiff, reduceIte, e11, e14, e15] at h
                    exact h
                  | 17, ho =>
                    obtain rfl := Option.some.inj ho
                    intro vs W K hB hD hU hK
                    have HK := Lib.hid hK
                    have e11 : vs 11 = .bool true := dep_of hD 11 (by rfl)
                    have e16 : vs 16 = .pointer (some ⟨bT, oT + k, none⟩) := dep_of hD 16 (by rfl)
                    have cT := HT.out W hB
                    clear hK hD hU ho
                    dsimp only
                    go_simp
                    have h := HK.out _ _ (Below.refl _ _) rfl
                    simp only [upd, Nat.reduceEqDiff, reduceIte, e11, e16] at h
                    exact h
                  | 18, ho =>
                    obtain rfl := Option.some.inj ho
                    intro vs W K hB hD hU hK
                    have HK := Lib.hid hK
                    have e11 : vs 11 = .bool true := dep_of hD 11 (by rfl)
                    have e12 : vs 12 = .agg #[.slice (some ⟨b0, o0, none⟩) R c0, .slice a1 n1 c1, .slice (some ⟨b2, o2, none⟩) R c2] := dep_of hD 12 (by rfl)
                    have e13 : vs 13 = .int .i64 k := dep_of hD 13 (by rfl)
                    have e17 : vs 17 = .int .i64 (y : Int) := dep_of hD 17 (by rfl)
                    clear hK hD hU ho
                    dsimp only
                    go_simp
                    refine (HFF.out W hB).mono ?_
                    rintro e W' ⟨rfl, hb⟩
                    have h := HK.out _ _ hb rfl
                    simp only [upd, Nat.reduceEqDiff, reduceIte, e11, e12, e13, e17] at h
                    exact h
                  | 19, ho =>
                    obtain rfl := Option.some.inj ho
                    intro vs W K hB hD hU hK
                    have HK := Lib.hid hK
                    have e11 : vs 11 = .bool true := dep_of hD 11 (by rfl)
                    have e18 : vs 18 = .bool true := dep_of hD 18 (by rfl)
                    clear hK hD hU ho
                    dsimp only
                    go_simp
                    have h := HK.out _ _ (Below.refl _ _) rfl
                    simp only [upd, Nat.reduceEqDiff, reduceIte, e11, e18] at h
                    exact h
                  | 20, ho =>
                    obtain rfl := Option.some.inj ho
                    intro vs W K hB hD hU hK
                    have HK := Lib.hid hK
                    have e11 : vs 11 = .bool true := dep_of hD 11 (by rfl)
                    have e19 : vs 19 = .bool false := dep_of hD 19 (by rfl)
                    clear hK hD hU ho
                    dsimp only
                    go_simp
                    have h := HK.out _ _ (Below.refl _ _) rfl
                    simp only [upd, Nat.reduceEqDiff, reduceIte, e11, e19] at h
                    exact h
                  | 21, ho =>
                    obtain rfl := Option.some.inj ho
                    intro vs W K hB hD hU hK
                    have HK := Lib.hid hK
                    have e20 : vs 20 = .bool false := dep_of hD 20 (by rfl)
                    clear hK hD hU ho
                    dsimp only
                    go_simp
                    have h := HK.out _ _ (Below.refl _ _) rfl
                    simp only [upd, Nat.reduceEqDiff, reduceIte, e20] at h
                    exact h
                  | 22, ho =>
                    obtain rfl := Option.some.inj ho
                    intro vs W K hB hD hU hK
                    have HK := Lib.hid hK
                    have e20 : vs 20 = .bool false := dep_of hD 20 (by rfl)
                    clear hK hD hU ho
                    dsimp only
                    go_simp
                    have h := HK.out _ _ (Below.refl _ _) rfl
                    simp only [upd, Nat.reduceEqDiff, reduceIte, e20] at h
                    exact h
                  | 23, ho =>
                    obtain rfl := Option.some.inj ho
                    intro vs W K hB hD hU hK
                    have HK := Lib.hid hK
                    have e20 : vs 20 = .bool false := dep_of hD 20 (by rfl)
                    clear hK hD hU ho
                    dsimp only
                    go_simp
                    have h := HK.out _ _ (Below.refl _ _) rfl
                    simp only [upd, Nat.reduceEqDiff, reduceIte, e20] at h
                    exact h
                  | 24, ho =>
                    obtain rfl := Option.some.inj ho
                    intro vs W K hB hD hU hK
                    have HK := Lib.hid hK
                    have e20 : vs 20 = .bool false := dep_of hD 20 (by rfl)
                    have e22 : vs 22 = .slice (some ⟨bT, oT, none⟩) R cT := dep_of hD 22 (by rfl)
                    have e23 : vs 23 = .int .i64 k := dep_of hD 23 (by rfl)
                    clear hK hD hU ho
                    dsimp only
                    go_simp
                    have h := HK.out _ _ (Below.refl _ _) rfl
                    simp only [upd, Nat.reduceEqDiff, reduceIte, e20, e22, e23] at h
                    exact h
                  | 25, ho =>
                    obtain rfl := Option.some.inj ho
                    intro vs W K hB hD hU hK
                    have HK := Lib.hid hK
                    have e20 : vs 20 = .bool false := dep_of hD 20 (by rfl)
                    have e24 : vs 24 = .pointer (some ⟨bT, oT + k, none⟩) := dep_of hD 24 (by rfl)
                    have cT := HT.out W hB
                    clear hK hD hU ho
                    dsimp only
                    go_simp
                    have h := HK.out _ _ (Below.refl _ _) rfl
                    simp only [upd, Nat.reduceEqDiff, reduceIte, e20, e24] at h
                    exact h
                  | 26, ho =>
                    obtain rfl := Option.some.inj ho
                    intro vs W K hB hD hU hK
                    have HK := Lib.hid hK
                    have e20 : vs 20 = .bool false := dep_of hD 20 (by rfl)
                    have e21 : vs 21 = .slice (some ⟨bS, oS, none⟩) R cS := dep_of hD 21 (by rfl)
                    have e25 : vs 25 = .int .i64 (y : Int) := dep_of hD 25 (by rfl)
                    obtain ⟨hyx, hyn, hyi⟩ := HY.out
                    clear hK hD hU ho
                    dsimp only
                    go_simp
                    have h := HK.out _ _ (Below.refl _ _) rfl
                    simp only [upd, Nat.reduceEqDiff, reduceIte, e20, e21, e25] at h
                    exact h
                  | 27, ho =>
                    obtain rfl := Option.some.inj ho
                    intro vs W K hB hD hU hK
                    have HK := Lib.hid hK
                    have e20 : vs 20 = .bool false := dep_of hD 20 (by rfl)
                    have e26 : vs 26 = .pointer (some ⟨bS, oS + y, none⟩) := dep_of hD 26 (by rfl)
                    have cS := HS.out W hB
                    clear hK hD hU ho
                    dsimp only
                    go_simp
                    have h := HK.out _ _ (Below.refl _ _) rfl
                    simp only [upd, Nat.reduceEqDiff, reduceIte, e20, e26] at h
                    exact h
                  | 28, ho =>
                    obtain rfl := Option.some.inj ho
                    intro vs W K hB hD hU hK
                    have HK := Lib.hid hK
                    have e20 : vs 20 = .bool false := dep_of hD 20 (by rfl)
                    have e27 : vs 27 = .bool false := dep_of hD 27 (by rfl)
                    clear hK hD hU ho
                    dsimp only
                    go_simp
                    have h := HK.out _ _ (Below.refl _ _) rfl
                    simp only [upd, Nat.reduceEqDiff, reduceIte, e20, e27] at h
                    exact h
                  | 29, ho =>
                    obtain rfl := Option.some.inj ho
                    intro vs W K hB hD hU hK
                    have HK := Lib.hid hK
                    have e11 : vs 11 = .bool true := dep_of hD 11 (by rfl)
                    have e20 : vs 20 = .bool false := dep_of hD 20 (by rfl)
                    have e28 : vs 28 = .bool true := dep_of hD 28 (by rfl)
                    clear hK hD hU ho
                    dsimp only
                    go_simp
                    have h := HK.out _ _ (Below.refl _ _) rfl
                    simp only [upd, Nat.reduceEqDiff, reduceIte, e11, e20, e28] at h
                    exact h
                  | 30, ho =>
                    obtain rfl := Option.some.inj ho
                    intro vs W K hB hD hU hK
                    have HK := Lib.hid hK
                    have e9 : vs 9 = .bool false := dep_of hD 9 (by rfl)
                    have e11 : vs 11 = .bool true := dep_of hD 11 (by rfl)
                    have e29 : vs 29 = .bool true := dep_of hD 29 (by rfl)
                    clear hK hD hU ho
                    dsimp only
                    go_simp
                    have h := HK.out _ _ (Below.refl _ _) rfl
                    simp only [upd, Nat.reduceEqDiff, reduceIte, e9, e11, e29] at h
                    exact h
                  | 31, ho =>
                    obtain rfl := Option.some.inj ho
                    intro vs W K hB hD hU hK
                    have HK := Lib.hid hK
                    have e9 : vs 9 = .bool false := dep_of hD 9 (by rfl)
                    have e30 : vs 30 = .bool true := dep_of hD 30 (by rfl)
                    clear hK hD hU ho
                    dsimp only
                    go_simp
                    have h := HK.out _ _ (Below.refl _ _) rfl
                    simp only [upd, Nat.reduceEqDiff, reduceIte, e9, e30] at h
                    exact h
                  | q + 32, ho => exact absurd ho (by simp)
                case fin =>
                  intro vs W hB hall
                  have e31 : vs 31 = .bool true := hall 31 (by decide)
                  have hB3 := (Below.drew (B := wr.heap.size) (Below.refl _ wr)).trans hB
                  clear hall hB
                  rw [e31]
                  clear e31
                  generalize vs 0 = z0q
                  generalize vs 1 = z1q
                  generalize vs 2 = z2q
                  generalize vs 3 = z3q
                  generalize vs 4 = z4q
                  generalize vs 5 = z5q
                  generalize vs 6 = z6q
                  generalize vs 7 = z7q
                  generalize vs 8 = z8q
                  generalize vs 9 = z9q
                  generalize vs 10 = z10q
                  generalize vs 11 = z11q
                  generalize vs 12 = z12q
                  generalize vs 13 = z13q
                  generalize vs 14 = z14q
                  generalize vs 15 = z15q
                  generalize vs 16 = z16q
                  generalize vs 17 = z17q
                  generalize vs 18 = z18q
                  generalize vs 19 = z19q
                  generalize vs 20 = z20q
                  generalize vs 21 = z21q
                  generalize vs 22 = z22q
                  generalize vs 23 = z23q
                  generalize vs 24 = z24q
                  generalize vs 25 = z25q
                  generalize vs 26 = z26q
                  generalize vs 27 = z27q
                  generalize vs 28 = z28q
                  generalize vs 29 = z29q
                  generalize vs 30 = z30q
                  clear vs
                  have hBn := hB.step hB3
                  go_wp2
                  go_ret
                  exact ⟨ret_bool (by rw [HF.out, rangeA_false _ _ k hlt (by rw [HKB.out]; rfl)]), hBn.bl⟩
              · rw [hsy] at HSy HKB
                have HS := HSy
                clear hsy HSy
                refine region_stable0 hmx (RV7e w.heap.size b0 o0 R c0 a1 n1 c1 b2 o2 c2 bT oT cT bS oS cS k y y) (fun vs => { tmps := (_ :: _ :: _ :: _ :: _ :: _ :: _ :: _ :: _ :: _ :: _ :: _ :: _ :: _ :: _ :: _ :: _ :: _ :: _ :: _ :: _ :: _ :: _ :: _ :: _ :: _ :: _ :: _ :: _ :: _ :: _ :: _ :: _ :: _ :: _ :: _ :: _ :: _ :: _ :: _ :: _ :: _ :: _ :: _ :: _ :: _ :: _ :: _ :: _ :: _ :: _ :: _ :: _ :: _ :: _ :: _ :: _ :: _ :: vs 0 :: vs 1 :: vs 2 :: vs 3 :: vs 4 :: vs 5 :: vs 6 :: vs 7 :: vs 8 :: vs 9 :: vs 10 :: vs 11 :: vs 12 :: vs 13 :: vs 14 :: vs 15 :: vs 16 :: vs 17 :: vs 18 :: vs 19 :: vs 20 :: vs 21 :: vs 22 :: vs 23 :: vs 24 :: vs 25 :: vs 26 :: vs 27 :: vs 28 :: vs 29 :: vs 30 :: vs 31 :: _ :: _ :: _ :: _ :: _ :: _ :: _ :: _ :: _ :: _ :: _ :: _ :: _ :: _ :: _ :: _ :: _ :: _ :: _ :: _ :: _ :: _ :: _ :: _ :: _ :: _ :: _ :: _ :: _ :: _ :: _ :: _ :: []).toArray, defers := _ }) (fun n => [u58, u59, u60, u61, u62, u63, u64, u65, u66, u67, u68, u69, u70, u71, u72, u73, u74, u75, u76, u77, u78, u79, u80, u81, u82, u83, u84, u85, u86, u87, u88, u89].getD n undef) rfl (by kernel_rfl) (fun _ _ _ _ h _ => h) ?step ?fin
                case step =>
                  intro ix o ho
                  match ix, ho with
                  | 0, ho =>
                    obtain rfl := Option.some.inj ho
                    intro vs W K hB hD hU hK
                    have HK := Lib.hid hK
                    clear hK hD hU ho
                    dsimp only
                    go_simp
                    have h := HK.out _ _ (Below.refl _ _) rfl
                    simp only [upd, Nat.reduceEqDiff, reduceIte] at h
                    exact h
                  | 1, ho =>
                    obtain rfl := Option.some.inj ho
                    intro vs W K hB hD hU hK
                    have HK := Lib.hid hK
                    have e0 : vs 0 = .bool true := dep_of hD 0 (by rfl)
                    clear hK hD hU ho
                    dsimp only
                    go_simp
                    have h := HK.out _ _ (Below.refl _ _) rfl
                    simp only [upd, Nat.reduceEqDiff, reduceIte, e0] at h
                    exact h
                  | 2, ho =>
                    obtain rfl := Option.some.inj ho
                    intro vs W K hB hD hU hK
                    have HK := Lib.hid hK
                    have e1 : vs 1 = .bool false := dep_of hD 1 (by rfl)
                    clear hK hD hU ho
                    dsimp only
                    go_simp
                    have h := HK.out _ _ (Below.refl _ _) rfl
                    simp only [upd, Nat.reduceEqDiff, reduceIte, e1] at h
                    exact h
                  | 3, ho =>
                    obtain rfl := Option.some.inj ho
                    intro vs W K hB hD hU hK
                    have HK := Lib.hid hK
                    have e2 : vs 2 = .bool false := dep_of hD 2 (by rfl)
                    clear hK hD hU ho
                    dsimp only
                    go_simp
                    have h := HK.out _ _ (Below.refl _ _) rfl
                    simp only [upd, Nat.reduceEqDiff, reduceIte, e2] at h
                    exact h
                  | 4, ho =>
                    obtain rfl := Option.some.inj ho
                    intro vs W K hB hD hU hK
                    have HK := Lib.hid hK
                    have e2 : vs 2 = .bool false := dep_of hD 2 (by rfl)
                    clear hK hD hU ho
                    dsimp only
                    go_simp
                    have h := HK.out _ _ (Below.refl _ _) rfl
                    simp only [upd, Nat.reduceEqDiff, reduceIte, e2] at h
                    exact h
                  | 5, ho =>
                    obtain rfl := Option.some.inj ho
                    intro vs W K hB hD hU hK
                    have HK := Lib.hid hK
                    have e2 : vs 2 = .bool false := dep_of hD 2 (by rfl)
                    clear hK hD hU ho
                    dsimp only
                    go_simp
                    have h := HK.out _ _ (Below.refl _ _) rfl
                    simp only [upd, Nat.reduceEqDiff, reduceIte, e2] at h
                    exact h
                  | 6, ho =>
                    obtain rfl := Option.some.inj ho
                    intro vs W K hB hD hU hK
                    have HK := Lib.hid hK
                    have e2 : vs 2 = .bool false := dep_of hD 2 (by rfl)
                    clear hK hD hU ho
                    dsimp only
                    go_simp
                    have h := HK.out _ _ (Below.refl _ _) rfl
                    simp only [upd, Nat.reduceEqDiff, reduceIte, e2] at h
                    exact h
                  | 7, ho =>
                    obtain rfl := Option.some.inj ho
                    intro vs W K hB hD hU hK
                    have HK := Lib.hid hK
                    have e2 : vs 2 = .bool false := dep_of hD 2 (by rfl)
                    clear hK hD hU ho
                    dsimp only
                    go_simp
                    have h := HK.out _ _ (Below.refl _ _) rfl
                    simp only [upd, Nat.reduceEqDiff, reduceIte, e2] at h
                    exact h
                  | 8, ho =>
                    obtain rfl := Option.some.inj ho
                    intro vs W K hB hD hU hK
                    have HK := Lib.hid hK
                    have e2 : vs 2 = .bool false := dep_of hD 2 (by rfl)
                    have e7 : vs 7 = undef := dep_of hD 7 (by rfl)
                    clear hK hD hU ho
                    dsimp only
                    go_simp
                    have h := HK.out _ _ (Below.refl _ _) rfl
                    simp only [upd, Nat.reduceEqDiff, reduceIte, e2, e7] at h
                    exact h
                  | 9, ho =>
                    obtain rfl := Option.some.inj ho
                    intro vs W K hB hD hU hK
                    have HK := Lib.hid hK
                    have e8 : vs 8 = .bool false := dep_of hD 8 (by rfl)
                    clear hK hD hU ho
                    dsimp only
                    go_simp
                    have h := HK.out _ _ (Below.refl _ _) rfl
                    simp only [upd, Nat.reduceEqDiff, reduceIte, e8] at h
                    exact h
                  | 10, ho =>
                    obtain rfl := Option.some.inj ho
                    intro vs W K hB hD hU hK
                    have HK := Lib.hid hK
                    have e9 : vs 9 = .bool false := dep_of hD 9 (by rfl)
                    clear hK hD hU ho
                    dsimp only
                    go_simp
                    have h := HK.out _ _ (Below.refl _ _) rfl
                    simp only [upd, Nat.reduceEqDiff, reduceIte, e9] at h
                    exact h
                  | 11, ho =>
                    obtain rfl := Option.some.inj ho
                    intro vs W K hB hD hU hK
                    have HK := Lib.hid hK
                    have e9 : vs 9 = .bool false := dep_of hD 9 (by rfl)
                    have e10 : vs 10 = .bool true := dep_of hD 10 (by rfl)
                    clear hK hD hU ho
                    dsimp only
                    go_simp
                    have h := HK.out _ _ (Below.refl _ _) rfl
                    simp only [upd, Nat.reduceEqDiff, reduceIte, e9, e10] at h
                    exact h
                  | 12, ho =>
                    obtain rfl := Option.some.inj ho
                    intro vs W K hB hD hU hK
                    have HK := Lib.hid hK
                    have e11 : vs 11 = .bool true := dep_of hD 11 (by rfl)
                    obtain ⟨d0, d1, d2⟩ := HZ.out W hB
                    clear hK hD hU ho
                    dsimp only
                    go_simp
                    have h := HK.out _ _ (Below.refl _ _) rfl
                    simp only [upd, Nat.reduceEqDiff, reduceIte, e11] at h
                    exact h
                  | 13, ho =>
                    obtain rfl := Option.some.inj ho
                    intro vs W K hB hD hU hK
                    have HK := Lib.hid hK
                    have e11 : vs 11 = .bool true := dep_of hD 11 (by rfl)
                    clear hK hD hU ho
                    dsimp only
                    go_simp
                    have h := HK.out _ _ (Below.refl _ _) rfl
                    simp only [upd, Nat.reduceEqDiff, reduceIte, e11] at h
                    exact h
                  | 14, ho =>
                    obtain rfl := Option.some.inj ho
                    intro vs W K hB hD hU hK
                    have HK := Lib.hid hK
                    have e11 : vs 11 = .bool true := dep_of hD 11 (by rfl)
                    clear hK hD hU ho
                    dsimp only
                    go_simp
                    have h := HK.out _ _ (Below.refl _ _) rfl
                    simp only [upd, Nat.reduceEqDiff, reduceIte, e11] at h
                    exact h
                  | 15, ho =>
                    obtain rfl := Option.some.inj ho
                    intro vs W K hB hD hU hK
                    have HK := Lib.hid hK
                    have e11 : vs 11 = .bool true := dep_of hD 11 (by rfl)
                    clear hK hD hU ho
                    dsimp only
                    go_simp
                    have h := HK.out _ _ (Below.refl _ _) rfl
                    simp only [upd, Nat.reduceEqDiff, reduceIte, e11] at h
                    exact h
                  | 16, ho =>
                    obtain rfl := Option.some.inj ho
                    intro vs W K hB hD hU hK
                    have HK := Lib.hid hK
                    have e11 : vs 11 = .bool true := dep_of hD 11 (by rfl)
                    have e14 : vs 14 = .slice (some ⟨bT, oT, none⟩) R cT := dep_of hD 14 (by rfl)
                    have e15 : vs 15 = .int .i64 k := dep_of hD 15 (by rfl)
                    clear hK hD hU ho
                    dsimp only
                    go_simp
                    have h := HK.out _ _ (Below.refl _ _) rfl
                    simp only [upd, Nat.reduceEqDiff, reduceIte, e11, e14, e15] at h
                    exact h
                  | 17, ho =>
                    obtain rfl := Option.some.inj ho
                    intro vs W K hB hD hU hK
                    have HK := Lib.hid hK
                    have e11 : vs 11 = .bool true := dep_of hD 11 (by rfl)
                    have e16 : vs 16 = .pointer (some ⟨bT, oT + k, none⟩) := dep_of hD 16 (by rfl)
                    have cT := HT.out W hB
                    clear hK hD hU ho
                    dsimp only
                    go_simp
                    have h := HK.out _ _ (Below.refl _ _) rfl
                    simp only [upd, Nat.reduceEqDiff, reduceIte, e11, e16] at h
                    exact h
                  | 18, ho =>
                    obtain rfl := Option.some.inj ho
                    intro vs W K hB hD hU hK
                    have HK := Lib.hid hK
                    have e11 : vs 11 = .bool true := dep_of hD 11 (by rfl)
                    have e12 : vs 12 = .agg #[.slice (some ⟨b0, o0, none⟩) R c0, .slice a1 n1 c1, .slice (some ⟨b2, o2, none⟩) R c2] := dep_of hD 12 (by rfl)
                    have e13 : vs 13 = .int .i64 k := dep_of hD 13 (by rfl)
                    have e17 : vs 17 = .int .i64 (y : Int) := dep_of hD 17 (by rfl)
                    clear hK hD hU ho
                    dsimp only
                    go_simp
                    refine (HFF.out W hB).mono ?_
                    rintro e W' ⟨rfl, hb⟩
                    have h := HK.out _ _ hb rfl
                    simp only [upd, Nat.reduceEqDiff, reduceIte, e11, e12, e13, e17] at h
                    exact h
                  | 19, ho =>
                    obtain rfl := Option.some.inj ho
                    intro vs W K hB hD hU hK
                    have HK := Lib.hid hK
                    have e11 : vs 11 = .bool true := dep_of hD 11 (by rfl)
                    have e18 : vs 18 = .bool true := dep_of hD 18 (by rfl)
                    clear hK hD hU ho
                    dsimp only
                    go_simp
                    have h := HK.out _ _ (Below.refl _ _) rfl
                    simp only [upd, Nat.reduceEqDiff, reduceIte, e11, e18] at h
                    exact h
                  | 20, ho =>
                    obtain rfl := Option.some.inj ho
                    intro vs W K hB hD hU hK
                    have HK := Lib.hid hK
                    have e11 : vs 11 = .bool true := dep_of hD 11 (by rfl)
                    have e19 : vs 19 = .bool false := dep_of hD 19 (by rfl)
                    clear hK hD hU ho
                    dsimp only
                    go_simp
                    have h := HK.out _ _ (Below.refl _ _) rfl
                    simp only [upd, Nat.reduceEqDiff, reduceIte, e11, e19] at h
                    exact h
                  | 21, ho =>
                    obtain rfl := Option.some.inj ho
                    intro vs W K hB hD hU hK
                    have HK := Lib.hid hK
                    have e20 : vs 20 = .bool false := dep_of hD 20 (by rfl)
                    clear hK hD hU ho
                    dsimp only
                    go_simp
                    have h := HK.out _ _ (Below.refl _ _) rfl
                    simp only [upd, Nat.reduceEqDiff, reduceIte, e20] at h
                    exact h
                  | 22, ho =>
                    obtain rfl := Option.some.inj ho
                    intro vs W K hB hD hU hK
                    have HK := Lib.hid hK
                    have e20 : vs 20 = .bool false := dep_of hD 20 (by rfl)
                    clear hK hD hU ho
                    dsimp only
                    go_simp
                    have h := HK.out _ _ (Below.refl _ _) rfl
                    simp only [upd, Nat.reduceEqDiff, reduceIte, e20] at h
                    exact h
                  | 23, ho =>
                    obtain rfl := Option.some.inj ho
                    intro vs W K hB hD hU hK
                    have HK := Lib.hid hK
                    have e20 : vs 20 = .bool false := dep_of hD 20 (by rfl)
                    clear hK hD hU ho
                    dsimp only
                    go_simp
                    have h := HK.out _ _ (Below.refl _ _) rfl
                    simp only [upd, Nat.reduceEqDiff, reduceIte, e20] at h
                    exact h
                  | 24, ho =>
                    obtain rfl := Option.some.inj ho
                    intro vs W K hB hD hU hK
                    have HK := Lib.hid hK
                    have e20 : vs 20 = .bool false := dep_of hD 20 (by rfl)
                    have e22 : vs 22 = .slice (some ⟨bT, oT, none⟩) R cT := dep_of hD 22 (by rfl)
                    have e23 : vs 23 = .int .i64 k := dep_of hD 23 (by rfl)
                    clear hK hD hU ho
                    dsimp only
                    go_simp
                    have h := HK.out _ _ (Below.refl _ _) rfl
                    simp only [upd, Nat.reduceEqDiff, reduceIte, e20, e22, e23] at h
                    exact h
                  | 25, ho =>
                    obtain rfl := Option.some.inj ho
                    intro vs W K hB hD hU hK
                    have HK := Lib.hid hK
                    have e20 : vs 20 = .bool false := dep_of hD 20 (by rfl)
                    have e24 : vs 24 = .pointer (some ⟨bT, oT + k, none⟩) := dep_of hD 24 (by rfl)
                    have cT := HT.out W hB
                    clear hK hD hU ho
                    dsimp only
                    go_simp
                    have h := HK.out _ _ (Below.refl _ _) rfl
                    simp only [upd, Nat.reduceEqDiff, reduceIte, e20, e24] at h
                    exact h
                  | 26, ho =>
                    obtain rfl := Option.some.inj ho
                    intro vs W K hB hD hU hK
                    have HK := Lib.hid hK
                    have e20 : vs 20 = .bool false := dep_of hD 20 (by rfl)
                    have e21 : vs 21 = .slice (some ⟨bS, oS, none⟩) R cS := dep_of hD 21 (by rfl)
                    have e25 : vs 25 = .int .i64 (y : Int) := dep_of hD 25 (by rfl)
                    obtain ⟨hyx, hyn, hyi⟩ := HY.out
                    clear hK hD hU ho
                    dsimp only
                    go_simp
                    have h := HK.out _ _ (Below.refl _ _) rfl
                    simp only [upd, Nat.reduceEqDiff, reduceIte, e20, e21, e25] at h
                    exact h
                  | 27, ho =>
                    obtain rfl := Option.some.inj ho
                    intro vs W K hB hD hU hK
                    have HK := Lib.hid hK
                    have e20 : vs 20 = .bool false := dep_of hD 20 (by rfl)
                    have e26 : vs 26 = .pointer (some ⟨bS, oS + y, none⟩) := dep_of hD 26 (by rfl)
                    have cS := HS.out W hB
                    clear hK hD hU ho
                    dsimp only
                    go_simp
                    have h := HK.out _ _ (Below.refl _ _) rfl
                    simp only [upd, Nat.reduceEqDiff, reduceIte, e20, e26] at h
                    exact h
                  | 28, ho =>
                    obtain rfl := Option.some.inj ho
                    intro vs W K hB hD hU hK
                    have HK := Lib.hid hK
                    have e20 : vs 20 = .bool false := dep_of hD 20 (by rfl)
                    have e27 : vs 27 = .bool true := dep_of hD 27 (by rfl)
                    clear hK hD hU ho
                    dsimp only
                    go_simp
                    have h := HK.out _ _ (Below.refl _ _) rfl
                    simp only [upd, Nat.reduceEqDiff, reduceIte, e20, e27] at h
                    exact h
                  | 29, ho =>
                    obtain rfl := Option.some.inj ho
                    intro vs W K hB hD hU hK
                    have HK := Lib.hid hK
                    have e11 : vs 11 = .bool true := dep_of hD 11 (by rfl)
                    have e20 : vs 20 = .bool false := dep_of hD 20 (by rfl)
                    have e28 : vs 28 = .bool false := dep_of hD 28 (by rfl)
                    clear hK hD hU ho
                    dsimp only
                    go_simp
                    have h := HK.out _ _ (Below.refl _ _) rfl
                    simp only [upd, Nat.reduceEqDiff, reduceIte, e11, e20, e28] at h
                    exact h
                  | 30, ho =>
                    obtain rfl := Option.some.inj ho
                    intro vs W K hB hD hU hK
                    have HK := Lib.hid hK
                    have e9 : vs 9 = .bool false := dep_of hD 9 (by rfl)
                    have e11 : vs 11 = .bool true := dep_of hD 11 (by rfl)
                    have e29 : vs 29 = .bool false := dep_of hD 29 (by rfl)
                    clear hK hD hU ho
                    dsimp only
                    go_simp
                    have h := HK.out _ _ (Below.refl _ _) rfl
                    simp only [upd, Nat.reduceEqDiff, reduceIte, e9, e11, e29] at h
                    exact h
                  | 31, ho =>
                    obtain rfl := Option.some.inj ho
                    intro vs W K hB hD hU hK
                    have HK := Lib.hid hK
                    have e9 : vs 9 = .bool false := dep_of hD 9 (by rfl)
                    have e30 : vs 30 = .bool false := dep_of hD 30 (by rfl)
                    clear hK hD hU ho
                    dsimp only
                    go_simp
                    have h := HK.out _ _ (Below.refl _ _) rfl
                    simp only [upd, Nat.reduceEqDiff, reduceIte, e9, e30] at h
                    exact h
                  | q + 32, ho => exact absurd ho (by simp)
                case fin =>
                  intro vs W hB hall
                  have e31 : vs 31 = .bool false := hall 31 (by decide)
                  have hB3 := (Below.drew (B := wr.heap.size) (Below.refl _ wr)).trans hB
                  clear hall hB
                  rw [e31]
                  clear e31
                  generalize vs 0 = z0q
                  generalize vs 1 = z1q
                  generalize vs 2 = z2q
                  generalize vs 3 = z3q
                  generalize vs 4 = z4q
                  generalize vs 5 = z5q
                  generalize vs 6 = z6q
                  generalize vs 7 = z7q
                  generalize vs 8 = z8q
                  generalize vs 9 = z9q
                  generalize vs 10 = z10q
                  generalize vs 11 = z11q
                  generalize vs 12 = z12q
                  generalize vs 13 = z13q
                  generalize vs 14 = z14q
                  generalize vs 15 = z15q
                  generalize vs 16 = z16q
                  generalize vs 17 = z17q
                  generalize vs 18 = z18q
                  generalize vs 19 = z19q
                  generalize vs 20 = z20q
                  generalize vs 21 = z21q
                  generalize vs 22 = z22q
                  generalize vs 23 = z23q
                  generalize vs 24 = z24q
                  generalize vs 25 = z25q
                  generalize vs 26 = z26q
                  generalize vs 27 = z27q
                  generalize vs 28 = z28q
                  generalize vs 29 = z29q
                  generalize vs 30 = z30q
                  clear vs
                  have hBn := hB.step hB3
                  clear hB3 d0 d1 d2 c00 c20 cS0 cT0
                  clear hB HBW HT HZ HFF
                  go_wp2
                  go_loopg [8, 11] 0 (fun gh r i wi => gh = 0 ∧ i = .int .i64 0 ∧ r = .bool false ∧ wi = W)
                  case atStart => exact ⟨rfl, rfl, rfl, rfl⟩
                  case round =>
                    obtain ⟨-, rfl, rfl, rfl⟩ := hrel
                    have d2 := hBn.cell 2 rfl
                    have c2n := H2.out k hlt _ hBn.bl
                    rw [HVV.out] at c2n
                    have cSn := HS0.out k hlt _ hBn.bl
                    rw [HQ.out] at cSn
                    go_wp2
                    go_roundg (R - (k + 1))
                    case measure => have := HGK.out; omega
                    case rel => exact ⟨k + 1, rfl, by go_num, rfl, by omega, hBn, by show _ = _; rw [rangeA_succ, HE.out, HKB.out]; rfl⟩
            · rw [show decide (x ∈ sl) = false by simp [hm]] at HFF HKB
              clear hm
              refine region_stable0 hmx (RV7c w.heap.size b0 o0 R c0 a1 n1 c1 b2 o2 c2 bT oT cT bS oS cS k x 0) (fun vs => { tmps := (_ :: _ :: _ :: _ :: _ :: _ :: _ :: _ :: _ :: _ :: _ :: _ :: _ :: _ :: _ :: _ :: _ :: _ :: _ :: _ :: _ :: _ :: _ :: _ :: _ :: _ :: _ :: _ :: _ :: _ :: _ :: _ :: _ :: _ :: _ :: _ :: _ :: _ :: _ :: _ :: _ :: _ :: _ :: _ :: _ :: _ :: _ :: _ :: _ :: _ :: _ :: _ :: _ :: _ :: _ :: _ :: _ :: _ :: vs 0 :: vs 1 :: vs 2 :: vs 3 :: vs 4 :: vs 5 :: vs 6 :: vs 7 :: vs 8 :: vs 9 :: vs 10 :: vs 11 :: vs 12 :: vs 13 :: vs 14 :: vs 15 :: vs 16 :: vs 17 :: vs 18 :: vs 19 :: vs 20 :: vs 21 :: vs 22 :: vs 23 :: vs 24 :: vs 25 :: vs 26 :: vs 27 :: vs 28 :: vs 29 :: vs 30 :: vs 31 :: _ :: _ :: _ :: _ :: _ :: _ :: _ :: _ :: _ :: _ :: _ :: _ :: _ :: _ :: _ :: _ :: _ :: _ :: _ :: _ :: _ :: _ :: _ :: _ :: _ :: _ :: _ :: _ :: _ :: _ :: _ :: _ :: []).toArray, defers := _ }) (fun n => [u58, u59, u60, u61, u62, u63, u64, u65, u66, u67, u68, u69, u70, u71, u72, u73, u74, u75, u76, u77, u78, u79, u80, u81, u82, u83, u84, u85, u86, u87, u88, u89].getD n undef) rfl (by kernel_rfl) (fun _ _ _ _ h _ => h) ?step ?fin
              case step =>
                intro ix o ho
                match ix, ho with
                | 0, ho =>
                  obtain rfl := Option.some.inj ho
                  intro vs W K hB hD hU hK
                  have HK := Lib.hid hK
                  clear hK hD hU ho
                  dsimp only
                  go_simp
                  have h := HK.out _ _ (Below.refl _ _) rfl
                  simp only [upd, Nat.reduceEqDiff, reduceIte] at h
                  exact h
                | 1, ho =>
                  obtain rfl := Option.some.inj ho
                  intro vs W K hB hD hU hK
                  have HK := Lib.hid hK
                  have e0 : vs 0 = .bool true := dep_of hD 0 (by rfl)
                  clear hK hD hU ho
                  dsimp only
                  go_simp
                  have h := HK.out _ _ (Below.refl _ _) rfl
                  simp only [upd, Nat.reduceEqDiff, reduceIte, e0] at h
                  exact h
                | 2, ho =>
                  obtain rfl := Option.some.inj ho
                  intro vs W K hB hD hU hK
                  have HK := Lib.hid hK
                  have e1 : vs 1 = .bool false := dep_of hD 1 (by rfl)
                  clear hK hD hU ho
                  dsimp only
                  go_simp
                  have h := HK.out _ _ (Below.refl _ _) rfl
                  simp only [upd, Nat.reduceEqDiff, reduceIte, e1] at h
                  exact h
                | 3, ho =>
                  obtain rfl := Option.some.inj ho
                  intro vs W K hB hD hU hK
                  have HK := Lib.hid hK
                  have e2 : vs 2 = .bool false := dep_of hD 2 (by rfl)
                  clear hK hD hU ho
                  dsimp only
                  go_simp
                  have h := HK.out _ _ (Below.refl _ _) rfl
                  simp only [upd, Nat.reduceEqDiff, reduceIte, e2] at h
                  exact h
                | 4, ho =>
                  obtain rfl := Option.some.inj ho
                  intro vs W K hB hD hU hK
                  have HK := Lib.hid hK
                  have e2 : vs 2 = .bool false := dep_of hD 2 (by rfl)
                  clear hK hD hU ho
                  dsimp only
                  go_simp
                  have h := HK.out _ _ (Below.refl _ _) rfl
                  simp only [upd, Nat.reduceEqDiff, reduceIte, e2] at h
                  exact h
                | 5, ho =>
                  obtain rfl := Option.some.inj ho
                  intro vs W K hB hD hU hK
                  have HK := Lib.hid hK
                  have e2 : vs 2 = .bool false := dep_of hD 2 (by rfl)
                  clear hK hD hU ho
                  dsimp only
                  go_simp
                  have h := HK.out _ _ (Below.refl _ _) rfl
                  simp only [upd, Nat.reduceEqDiff, reduceIte, e2] at h
                  exact h
                | 6, ho =>
                  obtain rfl := Option.some.inj ho
                  intro vs W K hB hD hU hK
                  have HK := Lib.hid hK
                  have e2 : vs 2 = .bool false := dep_of hD 2 (by rfl)
                  clear hK hD hU ho
                  dsimp only
                  go_simp
                  have h := HK.out _ _ (Below.refl _ _) rfl
                  simp only [upd, Nat.reduceEqDiff, reduceIte, e2] at h
                  exact h
                | 7, ho =>
                  obtain rfl := Option.some.inj ho
                  intro vs W K hB hD hU hK
                  have HK := Lib.hid hK
                  have e2 : vs 2 = .bool false := dep_of hD 2 (by rfl)
                  clear hK hD hU ho
                  dsimp only
                  go_simp
                  have h := HK.out _ _ (Below.refl _ _) rfl
                  simp only [upd, Nat.reduceEqDiff, reduceIte, e2] at h
                  exact h
                | 8, ho =>
                  obtain rfl := Option.some.inj ho
                  intro vs W K hB hD hU hK
                  have HK := Lib.hid hK
                  have e2 : vs 2 = .bool false := dep_of hD 2 (by rfl)
                  have e7 : vs 7 = undef := dep_of hD 7 (by rfl)
                  clear hK hD hU ho
                  dsimp only
                  go_simp
                  have h := HK.out _ _ (Below.refl _ _) rfl
                  simp only [upd, Nat.reduceEqDiff, reduceIte, e2, e7] at h
                  exact h
                | 9, ho =>
                  obtain rfl := Option.some.inj ho
                  intro vs W K hB hD hU hK
                  have HK := Lib.hid hK
                  have e8 : vs 8 = .bool false := dep_of hD 8 (by rfl)
                  clear hK hD hU ho
                  dsimp only
                  go_simp
                  have h := HK.out _ _ (Below.refl _ _) rfl
                  simp only [upd, Nat.reduceEqDiff, reduceIte, e8] at h
                  exact h
                | 10, ho =>
                  obtain rfl := Option.some.inj ho
                  intro vs W K hB hD hU hK
                  have HK := Lib.hid hK
                  have e9 : vs 9 = .bool false := dep_of hD 9 (by rfl)
                  clear hK hD hU ho
                  dsimp only
                  go_simp
                  have h := HK.out _ _ (Below.refl _ _) rfl
                  simp only [upd, Nat.reduceEqDiff, reduceIte, e9] at h
                  exact h
                | 11, ho =>
                  obtain rfl := Option.some.inj ho
                  intro vs W K hB hD hU hK
                  have HK := Lib.hid hK
                  have e9 : vs 9 = .bool false := dep_of hD 9 (by rfl)
                  have e10 : vs 10 = .bool true := dep_of hD 10 (by rfl)
                  clear hK hD hU ho
                  dsimp only
                  go_simp
                  have h := HK.out _ _ (Below.refl _ _) rfl
                  simp only [upd, Nat.reduceEqDiff, reduceIte, e9, e10] at h
                  exact h
                | 12, ho =>
                  obtain rfl := Option.some.inj ho
                  intro vs W K hB hD hU hK
                  have HK := Lib.hid hK
                  have e11 : vs 11 = .bool true := dep_of hD 11 (by rfl)
                  obtain ⟨d0, d1, d2⟩ := HZ.out W hB
                  clear hK hD hU ho
                  dsimp only
                  go_simp
                  have h := HK.out _ _ (Below.refl _ _) rfl
                  simp only [upd, Nat.reduceEqDiff, reduceIte, e11] at h
                  exact h
                | 13, ho =>
                  obtain rfl := Option.some.inj ho
                  intro vs W K hB hD hU hK
                  have HK := Lib.hid hK
                  have e11 : vs 11 = .bool true := dep_of hD 11 (by rfl)
                  clear hK hD hU ho
                  dsimp only
                  go_simp
                  have h := HK.out _ _ (Below.refl _ _) rfl
                  simp only [upd, Nat.reduceEqDiff, reduceIte, e11] at h
                  exact h
                | 14, ho =>
                  obtain rfl := Option.some.inj ho
                  intro vs W K hB hD hU hK
                  have HK := Lib.hid hK
                  have e11 : vs 11 = .bool true := dep_of hD 11 (by rfl)
                  clear hK hD hU ho
                  dsimp only
                  go_simp
                  have h := HK.out _ _ (Below.refl _ _) rfl
                  simp only [upd, Nat.reduceEqDiff, reduceIte, e11] at h
                  exact h
                | 15, ho =>
                  obtain rfl := Option.some.inj ho
                  intro vs W K hB hD hU hK
                  have HK := Lib.hid hK
                  have e11 : vs 11 = .bool true := dep_of hD 11 (by rfl)
                  clear hK hD hU ho
                  dsimp only
                  go_simp
                  have h := HK.out _ _ (Below.refl _ _) rfl
                  simp only [upd, Nat.reduceEqDiff, reduceIte, e11] at h
                  exact h
                | 16, ho =>
                  obtain rfl := Option.some.inj ho
                  intro vs W K hB hD hU hK
                  have HK := Lib.hid hK
                  have e11 : vs 11 = .bool true := dep_of hD 11 (by rfl)
                  have e14 : vs 14 = .slice (some ⟨bT, oT, none⟩) R cT := dep_of hD 14 (by rfl)
                  have e15 : vs 15 = .int .i64 k := dep_of hD 15 (by rfl)
                  clear hK hD hU ho
                  dsimp only
                  go_simp
                  have h := HK.out _ _ (Below.refl _ _) rfl
                  simp only [upd, Nat.reduceEqDiff, reduceIte, e11, e14, e15] at h
                  exact h
                | 17, ho =>
                  obtain rfl := Option.some.inj ho
                  intro vs W K hB hD hU hK
                  have HK := Lib.hid hK
                  have e11 : vs 11 = .bool true := dep_of hD 11 (by rfl)
                  have e16 : vs 16 = .pointer (some ⟨bT, oT + k, none⟩) := dep_of hD 16 (by rfl)
                  have cT := HT.out W hB
                  clear hK hD hU ho
                  dsimp only
                  go_simp
                  have h := HK.out _ _ (Below.refl _ _) rfl
                  simp only [upd, Nat.reduceEqDiff, reduceIte, e11, e16] at h
                  exact h
                | 18, ho =>
                  obtain rfl := Option.some.inj ho
                  intro vs W K hB hD hU hK
                  have HK := Lib.hid hK
                  have e11 : vs 11 = .bool true := dep_of hD 11 (by rfl)
                  have e12 : vs 12 = .agg #[.slice (some ⟨b0, o0, none⟩) R c0, .slice a1 n1 c1, .slice (some ⟨b2, o2, none⟩) R c2] := dep_of hD 12 (by rfl)
                  have e13 : vs 13 = .int .i64 k := dep_of hD 13 (by rfl)
                  have e17 : vs 17 = .int .i64 x := dep_of hD 17 (by rfl)
                  clear hK hD hU ho
                  dsimp only
                  go_simp
                  refine (HFF.out W hB).mono ?_
                  rintro e W' ⟨rfl, hb⟩
                  have h := HK.out _ _ hb rfl
                  simp only [upd, Nat.reduceEqDiff, reduceIte, e11, e12, e13, e17] at h
                  exact h
                | 19, ho =>
                  obtain rfl := Option.some.inj ho
                  intro vs W K hB hD hU hK
                  have HK := Lib.hid hK
                  have e11 : vs 11 = .bool true := dep_of hD 11 (by rfl)
                  have e18 : vs 18 = .bool false := dep_of hD 18 (by rfl)
                  clear hK hD hU ho
                  dsimp only
                  go_simp
                  have h := HK.out _ _ (Below.refl _ _) rfl
                  simp only [upd, Nat.reduceEqDiff, reduceIte, e11, e18] at h
                  exact h
                | 20, ho =>
                  obtain rfl := Option.some.inj ho
                  intro vs W K hB hD hU hK
                  have HK := Lib.hid hK
                  have e11 : vs 11 = .bool true := dep_of hD 11 (by rfl)
                  have e19 : vs 19 = .bool true := dep_of hD 19 (by rfl)
                  clear hK hD hU ho
                  dsimp only
                  go_simp
                  have h := HK.out _ _ (Below.refl _ _) rfl
                  simp only [upd, Nat.reduceEqDiff, reduceIte, e11, e19] at h
                  exact h
                | 21, ho =>
                  obtain rfl := Option.some.inj ho
                  intro vs W K hB hD hU hK
                  have HK := Lib.hid hK
                  have e20 : vs 20 = .bool true := dep_of hD 20 (by rfl)
                  clear hK hD hU ho
                  dsimp only
                  go_simp
                  have h := HK.out _ _ (Below.refl _ _) rfl
                  simp only [upd, Nat.reduceEqDiff, reduceIte, e20] at h
                  exact h
                | 22, ho =>
                  obtain rfl := Option.some.inj ho
                  intro vs W K hB hD hU hK
                  have HK := Lib.hid hK
                  have e20 : vs 20 = .bool true := dep_of hD 20 (by rfl)
                  clear hK hD hU ho
                  dsimp only
                  go_simp
                  have h := HK.out _ _ (Below.refl _ _) rfl
                  simp only [upd, Nat.reduceEqDiff, reduceIte, e20] at h
                  exact h
                | 23, ho =>
                  obtain rfl := Option.some.inj ho
                  intro vs W K hB hD hU hK
                  have HK := Lib.hid hK
                  have e20 : vs 20 = .bool true := dep_of hD 20 (by rfl)
                  clear hK hD hU ho
                  dsimp only
                  go_simp
                  have h := HK.out _ _ (Below.refl _ _) rfl
                  simp only [upd, Nat.reduceEqDiff, reduceIte, e20] at h
                  exact h
                | 24, ho =>
                  obtain rfl := Option.some.inj ho
                  intro vs W K hB hD hU hK
                  have HK := Lib.hid hK
                  have e20 : vs 20 = .bool true := dep_of hD 20 (by rfl)
                  clear hK hD hU ho
                  dsimp only
                  go_simp
                  have h := HK.out _ _ (Below.refl _ _) rfl
                  simp only [upd, Nat.reduceEqDiff, reduceIte, e20] at h
                  exact h
                | 25, ho =>
                  obtain rfl := Option.some.inj ho
                  intro vs W K hB hD hU hK
                  have HK := Lib.hid hK
                  have e20 : vs 20 = .bool true := dep_of hD 20 (by rfl)
                  clear hK hD hU ho
                  dsimp only
                  go_simp
                  have h := HK.out _ _ (Below.refl _ _) rfl
                  simp only [upd, Nat.reduceEqDiff, reduceIte, e20] at h
                  exact h
                | 26, ho =>
                  obtain rfl := Option.some.inj ho
                  intro vs W K hB hD hU hK
                  have HK := Lib.hid hK
                  have e20 : vs 20 = .bool true := dep_of hD 20 (by rfl)
                  clear hK hD hU ho
                  dsimp only
                  go_simp
                  have h := HK.out _ _ (Below.refl _ _) rfl
                  simp only [upd, Nat.reduceEqDiff, reduceIte, e20] at h
                  exact h
                | 27, ho =>
                  obtain rfl := Option.some.inj ho
                  intro vs W K hB hD hU hK
                  have HK := Lib.hid hK
                  have e20 : vs 20 = .bool true := dep_of hD 20 (by rfl)
                  clear hK hD hU ho
                  dsimp only
                  go_simp
                  have h := HK.out _ _ (Below.refl _ _) rfl
                  simp only [upd, Nat.reduceEqDiff, reduceIte, e20] at h
                  exact h
                | 28, ho =>
                  obtain rfl := Option.some.inj ho
                  intro vs W K hB hD hU hK
                  have HK := Lib.hid hK
                  have e20 : vs 20 = .bool true := dep_of hD 20 (by rfl)
                  clear hK hD hU ho
                  dsimp only
                  go_simp
                  have h := HK.out _ _ (Below.refl _ _) rfl
                  simp only [upd, Nat.reduceEqDiff, reduceIte, e20] at h
                  exact h
                | 29, ho =>
                  obtain rfl := Option.some.inj ho
                  intro vs W K hB hD hU hK
                  have HK := Lib.hid hK
                  have e11 : vs 11 = .bool true := dep_of hD 11 (by rfl)
                  have e20 : vs 20 = .bool true := dep_of hD 20 (by rfl)
                  have e28 : vs 28 = undef := dep_of hD 28 (by rfl)
                  clear hK hD hU ho
                  dsimp only
                  go_simp
                  have h := HK.out _ _ (Below.refl _ _) rfl
                  simp only [upd, Nat.reduceEqDiff, reduceIte, e11, e20, e28] at h
                  exact h
                | 30, ho =>
                  obtain rfl := Option.some.inj ho
                  intro vs W K hB hD hU hK
                  have HK := Lib.hid hK
                  have e9 : vs 9 = .bool false := dep_of hD 9 (by rfl)
                  have e11 : vs 11 = .bool true := dep_of hD 11 (by rfl)
                  have e29 : vs 29 = .bool true := dep_of hD 29 (by rfl)
                  clear hK hD hU ho
                  dsimp only
                  go_simp
                  have h := HK.out _ _ (Below.refl _ _) rfl
                  simp only [upd, Nat.reduceEqDiff, reduceIte, e9, e11, e29] at h
                  exact h
                | 31, ho =>
                  obtain rfl := Option.some.inj ho
                  intro vs W K hB hD hU hK
                  have HK := Lib.hid hK
                  have e9 : vs 9 = .bool false := dep_of hD 9 (by rfl)
                  have e30 : vs 30 = .bool true := dep_of hD 30 (by rfl)
                  clear hK hD hU ho
                  dsimp only
                  go_simp
                  have h := HK.out _ _ (Below.refl _ _) rfl
                  simp only [upd, Nat.reduceEqDiff, reduceIte, e9, e30] at h
                  exact h
                | q + 32, ho => exact absurd ho (by simp)
              case fin =>
                intro vs W hB hall
                have e31 : vs 31 = .bool true := hall 31 (by decide)
                have hB3 := (Below.drew (B := wr.heap.size) (Below.refl _ wr)).trans hB
                clear hall hB
                rw [e31]
                clear e31
                generalize vs 0 = z0q
                generalize vs 1 = z1q
                generalize vs 2 = z2q
                generalize vs 3 = z3q
                generalize vs 4 = z4q
                generalize vs 5 = z5q
                generalize vs 6 = z6q
                generalize vs 7 = z7q
                generalize vs 8 = z8q
                generalize vs 9 = z9q
                generalize vs 10 = z10q
                generalize vs 11 = z11q
                generalize vs 12 = z12q
                generalize vs 13 = z13q
                generalize vs 14 = z14q
                generalize vs 15 = z15q
                generalize vs 16 = z16q
                generalize vs 17 = z17q
                generalize vs 18 = z18q
                generalize vs 19 = z19q
                generalize vs 20 = z20q
                generalize vs 21 = z21q
                generalize vs 22 = z22q
                generalize vs 23 = z23q
                generalize vs 24 = z24q
                generalize vs 25 = z25q
                generalize vs 26 = z26q
                generalize vs 27 = z27q
                generalize vs 28 = z28q
                generalize vs 29 = z29q
                generalize vs 30 = z30q
                clear vs
                have hBn := hB.step hB3
                go_wp2
                go_ret
                exact ⟨ret_bool (by rw [HF.out, rangeA_false _ _ k hlt (by rw [HKB.out]; rfl)]), hBn.bl⟩
      · obtain rfl : k = R := by omega
        have d0 := hB.cell 0 rfl
        go_wp2
        go_ret
        exact ⟨ret_bool (by rw [HF.out, HE.out]), hB.bl⟩

end Go.Proofs.Ytkbiopjinegckaa
