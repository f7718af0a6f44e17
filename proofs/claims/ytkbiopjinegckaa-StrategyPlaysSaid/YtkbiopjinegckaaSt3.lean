/- What keeps and the two functions Valid of strategies compute. -/
import Derived.Test.YtkbiopjinegckaaSt2
namespace Go.Proofs.Ytkbiopjinegckaa
open Go.RowKit

theorem IsBools.shape {w : World} {v : Value} {l : List Bool} (h : IsBools w v l) : ∃ a c, v = .slice a l.length c := by
  obtain ⟨a, c, b, o, rfl, -⟩ := h
  exact ⟨a, c, rfl⟩
theorem IsInts.shape {w : World} {v : Value} {l : List Int} (h : IsInts w v l) : ∃ a c, v = .slice a l.length c := by
  obtain ⟨⟨a, c, b, o, rfl, -⟩, -⟩ := h
  exact ⟨a, c, rfl⟩
theorem IsBools.data {w : World} {a : Option Addr} {n c : Nat} {l : List Bool} (h : IsBools w (.slice a n c) l) : ∃ b o, (0 < n → a = some ⟨b, o, none⟩) ∧ n ≤ 140737488351232 ∧ ∀ j, j < n → w.cell? ⟨b, o + j, none⟩ = some (.bool (l.getD j false)) := by
  obtain ⟨a', c', b, o, hv, ha⟩ := h
  injection hv with h1 h2 h3
  subst h1 h2 h3
  exact ⟨b, o, fun h => ha.ad h, ha.nb, fun j hj => ha.el j hj⟩
theorem IsInts.data {w : World} {a : Option Addr} {n c : Nat} {l : List Int} (h : IsInts w (.slice a n c) l) : ∃ b o, (0 < n → a = some ⟨b, o, none⟩) ∧ n ≤ 140737488351232 ∧ ∀ j, j < n → w.cell? ⟨b, o + j, none⟩ = some (.int .i64 (l.getD j 0)) := by
  obtain ⟨⟨a', c', b, o, hv, ha⟩, -⟩ := h
  injection hv with h1 h2 h3
  subst h1 h2 h3
  exact ⟨b, o, fun h => ha.ad h, ha.nb, fun j hj => ha.el j hj⟩
/-- The row of slices. -/
theorem IsRows.data {w : World} {v : Value} {ll : List (List Int)} (h : IsRows w v ll) : ∃ a c b o, ∃ V : Nat → Value, v = .slice a ll.length c ∧ (0 < ll.length → a = some ⟨b, o, none⟩) ∧ ll.length ≤ 140737488351232 ∧ ∀ j, j < ll.length → w.cell? ⟨b, o + j, none⟩ = some (V j) ∧ IsInts w (V j) (ll.getD j []) := by
  obtain ⟨V, ⟨a, c, b, o, rfl, ha⟩, hr⟩ := h
  exact ⟨a, c, b, o, V, rfl, fun h => ha.ad h, ha.nb, fun j hj => ⟨ha.el j hj, hr j hj⟩⟩

theorem leaves_c (W : World) (c x : Nat) (vs : Value) (set : List Bool) (hc : W.cell? ⟨c, 0, none⟩ = some vs) (hs : IsBools W vs set) (hx : x < set.length) :
    Calls Try.prog 43 #[.int .i64 (x : Int), .pointer (some ⟨c, 0, none⟩)] W (Quiet (.bool (!set.getD x false)) W) := by
  obtain ⟨a, cp, rfl⟩ := hs.shape
  obtain ⟨b, o, ha, hm, hd⟩ := hs.data
  obtain rfl := ha (by omega)
  have e1 := hd x hx
  clear hs ha hd
  generalize set.getD x false = y at *
  go_enter Try.func43, Try.ntmps43
  go_wp2
  go_ret
  exact ⟨rfl, 0, rfl⟩

def FnOut (p : Int → Bool) (l : List Int) (w : World) (e : Ending) (w' : World) : Prop := ∃ r : Int, e = .returned (.int .i64 r) ∧ I64 r ∧ (0 ≤ r ↔ ∃ x ∈ l, p x = true) ∧ ∃ n, w' = w.drewN n

theorem IndexFunc_c (w : World) (vl vs : Value) (l : List Int) (c : Nat) (set : List Bool) (hl : IsInts w vl l) (hc : w.cell? ⟨c, 0, none⟩ = some vs) (hs : IsBools w vs set) (hx : ∀ x ∈ l, 0 ≤ x ∧ x < set.length) :
    Calls Try.prog 48 #[vl, .func (.func 43) #[] #[.pointer (some ⟨c, 0, none⟩)]] w (FnOut (fun x => !set.getD x.toNat false) l w) := by
  obtain ⟨ao, cap, rfl⟩ := hl.shape
  obtain ⟨b, o, had, hm, hd⟩ := hl.data
  have HD := Lib.hid hd
  have HX := Lib.hid hx
  have HF : Hid (∀ (n x : Nat), x < set.length → Calls Try.prog 43 #[.int .i64 (x : Int), .pointer (some ⟨c, 0, none⟩)] (w.drewN n) (Quiet (.bool (!set.getD x false)) (w.drewN n))) :=
    fun n x h => leaves_c _ c x vs set hc (hs.below (below_draws _ _ _)) h
  clear hd hx hl hc hs
  go_enter Try.func48, Try.ntmps48
  go_wp2
  go_loopg [4, 5, 8] l.length (fun gh r _ i wr => ∃ k n : Nat, gh = l.length - k ∧ i = .int .i64 k ∧ r = .int .i64 0 ∧ k ≤ l.length ∧ wr = w.drewN n ∧ Hid (∀ x ∈ l.take k, set.getD x.toNat false = true))
  case atStart => exact ⟨0, 0, rfl, rfl, rfl, by omega, rfl, by simp [Hid]⟩
  case round =>
    obtain ⟨k, n, hgk, rfl, rfl, hk, rfl, HE⟩ := hrel
    have HG := Lib.hid hgk
    clear hgk
    by_cases hlt : k < l.length
    · obtain rfl := had (by omega)
      have c2 : (w.drewN n).cell? ⟨b, o + k, none⟩ = _ := HD.out k hlt
      obtain ⟨x0, x1⟩ := HX.out (l.getD k 0) (by rw [getD_lt _ _ _ hlt]; exact List.getElem_mem hlt)
      have HY : Hid (l.take (k + 1) = l.take k ++ [l.getD k 0]) := by show _ = _; rw [List.take_succ_eq_append_getElem hlt, getD_lt _ _ _ hlt]
      have HM : Hid (l.getD k 0 ∈ l) := by show _ ∈ _; rw [getD_lt _ _ _ hlt]; exact List.getElem_mem hlt
      generalize l.getD k 0 = x at *
      obtain ⟨y, rfl⟩ := Int.eq_ofNat_of_zero_le x0
      have hy : y < set.length := by omega
      clear x0 x1
      go_wp2_with fail
      refine (HF.out n y hy).mono ?_
      rintro e w1 ⟨rfl, m, rfl⟩
      cases hq : set.getD y false
      · go_wp2
        go_ret
        refine ⟨_, rfl, by unfold I64; omega, ⟨fun _ => ⟨_, HM.out, ?_⟩, fun _ => by omega⟩, _, rfl⟩
        show (!set.getD (y : Int).toNat false) = true
        rw [Int.toNat_natCast, hq]; rfl
      · go_wp2
        go_roundg (l.length - (k + 1))
        case measure => have := HG.out; omega
        case rel =>
          refine ⟨k + 1, _, rfl, by go_num, rfl, by omega, rfl, ?_⟩
          intro x hx
          rw [HY.out] at hx
          rcases List.mem_append.1 hx with h | h
          · exact HE.out x h
          · rw [List.mem_singleton.1 h, Int.toNat_natCast, hq]
    · go_wp2
      go_ret
      refine ⟨_, rfl, by unfold I64; omega, ⟨fun h => by omega, fun ⟨x, hx, hp⟩ => ?_⟩, n, rfl⟩
      have h3 := HE.out
      rw [List.take_of_length_le (by omega)] at h3
      have hp' : (!set.getD x.toNat false) = true := hp
      rw [h3 x hx] at hp'; cases hp'

theorem ContainsFunc_c (w : World) (vl vs : Value) (l : List Int) (c : Nat) (set : List Bool) (hl : IsInts w vl l) (hc : w.cell? ⟨c, 0, none⟩ = some vs) (hs : IsBools w vs set) (hx : ∀ x ∈ l, 0 ≤ x ∧ x < set.length) :
    Calls Try.prog 44 #[vl, .func (.func 43) #[] #[.pointer (some ⟨c, 0, none⟩)]] w (Quiet (.bool (!l.all fun x => set.getD x.toNat false)) w) := by
  go_enter Try.func44, Try.ntmps44
  go_wp2_with fail
  refine (IndexFunc_c _ _ _ l c set hl hc hs hx).mono ?_
  rintro e w1 ⟨r, rfl, hr, hrl, n, rfl⟩
  have HRL := Lib.hid hrl
  clear hrl
  go_wp2
  go_ret
  refine ⟨ret_bool ?_, n, rfl⟩
  rw [Bool.eq_iff_iff]
  have h := HRL.out
  simp [h]

def keepsB (g : Gm) (p : Int) (set : List Bool) (s : List Int) (v : Nat) : Bool :=
  if set.getD v false then
    if g.owner.getD v 0 = p then decide (s.getD v 0 ∈ g.succ.getD v []) && set.getD (s.getD v 0).toNat false
    else s.getD v 0 == -1 && (g.succ.getD v []).all (fun x => set.getD x.toNat false)
  else s.getD v 0 == -1

set_option maxHeartbeats 2000000 in
theorem keeps_c (w : World) (vg vs vt : Value) (g : Gm) (p : Int) (set : List Bool) (s : List Int) (v : Nat) (hg : IsGame w vg g) (hs : IsBools w vs set) (ht : IsInts w vt s) (hv : validB g = true) (h1 : set.length = g.owner.length) (h2 : s.length = g.owner.length) (hlt : v < g.owner.length) :
    Calls Try.prog 35 #[vg, .int .i64 p, vs, vt, .int .i64 v] w (Calm (.bool (keepsB g p set s v)) w) := by
  have hval := valid_at hv v hlt
  obtain ⟨l1, l2, l3⟩ := valid_lens hv
  obtain ⟨v0, v1, v2, rfl, i0, i1, i2⟩ := id hg
  obtain ⟨a0, c0, rfl⟩ := i0.shape
  obtain ⟨a1, c1, rfl⟩ := i1.shape
  obtain ⟨a2, c2, b2, o2, V, rfl, hd2, m2, dd2⟩ := i2.data
  obtain ⟨b0, o0, hd0, m0, dd0⟩ := i0.data
  obtain ⟨aS, cS, rfl⟩ := hs.shape
  obtain ⟨aT, cT, rfl⟩ := ht.shape
  obtain ⟨bS, oS, hdS, mS, ddS⟩ := hs.data
  obtain ⟨bT, oT, hdT, mT, ddT⟩ := ht.data
  obtain rfl := hd0 (by omega)
  obtain rfl := hd2 (by omega)
  obtain rfl := hdS (by omega)
  obtain rfl := hdT (by omega)
  have hB : Below w.heap.size w ((w.alloc (.cells #[.slice (some ⟨b0, o0, none⟩) g.owner.length c0, .slice a1 g.prio.length c1, .slice (some ⟨b2, o2, none⟩) g.succ.length c2] 25)).alloc (.cells #[.slice (some ⟨bS, oS, none⟩) set.length cS] 26)) := (by repeat (first | exact Below.refl _ _ | assumption | (refine belA ?_ _) | (refine belD ?_ _)))
  have e0 := cellB hB (dd0 v hlt)
  have e2 := cellB hB (dd2 v (by omega)).1
  have i2v := (dd2 v (by omega)).2
  have eS := cellB hB (ddS v (by omega))
  have eT := cellB hB (ddT v (by omega))
  obtain ⟨aV, cV, hVv⟩ := i2v.shape
  rw [hVv] at e2 i2v
  have hbx := heap_alloc_new (w.alloc (.cells #[.slice (some ⟨b0, o0, none⟩) g.owner.length c0, .slice a1 g.prio.length c1, .slice (some ⟨b2, o2, none⟩) g.succ.length c2] 25)) (.cells #[.slice (some ⟨bS, oS, none⟩) set.length cS] 26)
  rw [World.size_alloc] at hbx
  have HBX := Lib.hid (cell_of_row _ _ 0 _ _ _ hbx)
  clear hbx
  have HSS := Lib.hid (fun y (h : y < set.length) => cellB hB (ddS y h))
  have HSb := Lib.hid hs
  have HIv := Lib.hid i2v
  have HK : Hid (keepsB g p set s v = if set.getD v false then (if g.owner.getD v 0 = p then decide (s.getD v 0 ∈ g.succ.getD v []) && set.getD (s.getD v 0).toNat false else s.getD v 0 == -1 && (g.succ.getD v []).all (fun x => set.getD x.toNat false)) else s.getD v 0 == -1) := rfl
  have HR := Lib.hid hval.2.2.2
  have hsn : s.length = set.length := by omega
  have hon : g.owner.length = set.length := by omega
  have hln : g.succ.length = set.length := by omega
  have hx64 : I64 (s.getD v 0) := ht.2 _ (by rw [getD_lt _ _ _ (show v < s.length by omega)]; exact List.getElem_mem _)
  have HL := Lib.hid (show set.length = g.owner.length from h1)
  have k1 : v < set.length := by omega
  have k2 : v < s.length := by omega
  have k3 : v < g.succ.length := by omega
  have k4 : (v : Int) < set.length := by omega
  have k5 : (v : Int) < s.length := by omega
  have k6 : (v : Int) < g.succ.length := by omega
  have k7 : (v : Int) < g.owner.length := by omega
  clear hval dd0 dd2 ddS ddT hd0 hd2 hdS hdT i0 i1 i2 hg hs ht hB hVv l2 l3 h1 h2 i2v hsn hon hln
  generalize hxe : s.getD v 0 = x at *
  have HX := Lib.hid hxe
  clear hxe
  generalize g.owner.getD v 0 = ow at *
  generalize g.succ.getD v [] = sv at *
  have hvl : set.length ≤ 140737488351232 := mS
  cases hq : set.getD v false
  · rw [hq] at eS HK
    go_enter Try.func35, Try.ntmps35
    go_wp2
    go_ret
    refine ⟨ret_bool ?_, (by repeat (first | exact Below.refl _ _ | assumption | (refine belA ?_ _) | (refine belD ?_ _)))⟩
    rw [HK.out]; rfl
  · rw [hq] at eS HK
    cases ho : (ow == p)
    · have hop : ¬ ow = p := by simpa using ho
      rw [if_neg hop] at HK
      go_enter Try.func35, Try.ntmps35
      cases hx1 : (x == -1)
      · go_wp2
        go_ret
        refine ⟨ret_bool ?_, (by repeat (first | exact Below.refl _ _ | assumption | (refine belA ?_ _) | (refine belD ?_ _) | (refine Below.drew ?_)))⟩
        rw [HK.out, hx1]; rfl
      · go_wp2_with fail
        refine (ContainsFunc_c _ _ _ sv (w.heap.size + 1) set (HIv.out.below (by repeat (first | exact Below.refl _ _ | assumption | (refine belA ?_ _) | (refine belD ?_ _) | (refine Below.drew ?_)))) ?_ (HSb.out.below (by repeat (first | exact Below.refl _ _ | assumption | (refine belA ?_ _) | (refine belD ?_ _) | (refine Below.drew ?_)))) (fun y hy => by have := HR.out y hy; have := HL.out; omega)).mono ?_
        · exact HBX.out
        rintro e w1 ⟨rfl, n, rfl⟩
        go_wp2
        go_ret
        refine ⟨ret_bool ?_, (by repeat (first | exact Below.refl _ _ | assumption | (refine belA ?_ _) | (refine belD ?_ _) | (refine Below.drew ?_)))⟩
        rw [HK.out, hx1]; simp
    · have hop : ow = p := by simpa using ho
      rw [if_pos hop] at HK
      go_enter Try.func35, Try.ntmps35
      cases hc : decide (x ∈ sv)
      · rw [hc] at HK
        go_wp2
        go_quiet ((go_at_call 32; refine (Contains_c _ _ sv x (HIv.out.below (by repeat (first | exact Below.refl _ _ | assumption | (refine belA ?_ _) | (refine belD ?_ _) | (refine Below.drew ?_))))).mono ?_; rintro e w' ⟨rfl, n3, rfl⟩; rw [hc]; exact ⟨rfl, _, World.drewN_drewN ..⟩))
        go_wp2
        go_ret
        refine ⟨ret_bool ?_, (by repeat (first | exact Below.refl _ _ | assumption | (refine belA ?_ _) | (refine belD ?_ _) | (refine Below.drew ?_)))⟩
        rw [HK.out]; rfl
      · rw [hc] at HK
        obtain ⟨x0, x1⟩ := HR.out x (by simpa using hc)
        obtain ⟨y, rfl⟩ := Int.eq_ofNat_of_zero_le x0
        have hy : y < set.length := by have := HL.out; omega
        have hyI : (y : Int) < set.length := by omega
        have eY := HSS.out y hy
        rw [Int.toNat_natCast] at HK
        generalize set.getD y false = z at *
        clear x0 x1
        go_wp2
        go_quiet ((go_at_call 32; refine (Contains_c _ _ sv y (HIv.out.below (by repeat (first | exact Below.refl _ _ | assumption | (refine belA ?_ _) | (refine belD ?_ _) | (refine Below.drew ?_))))).mono ?_; rintro e w' ⟨rfl, n3, rfl⟩; rw [hc]; exact ⟨rfl, _, World.drewN_drewN ..⟩))
        go_wp2
        go_ret
        refine ⟨ret_bool ?_, (by repeat (first | exact Below.refl _ _ | assumption | (refine belA ?_ _) | (refine belD ?_ _) | (refine Below.drew ?_)))⟩
        rw [HK.out]; simp

end Go.Proofs.Ytkbiopjinegckaa
