/- What some, without and attract of the reference compute. -/
import Derived.Test.YtjhafakkadnfmaaSo23
namespace Go.Proofs.Ytjhafakkadnfmaa
open Go.RowKit

set_option maxHeartbeats 1000000 in
theorem RSome23_c (w : World) (v : Value) (l : List Bool) (h : IsBools w v l) : Calls Try.prog 52 #[v] w (Calm (.bool (l.any id)) w) := by
  obtain ⟨ao, cap, b, off, rfl, g0⟩ := h
  have hn := g0.nb
  go_enter Try.func52, Try.ntmps52
  go_wp2
  go_loopg [3] l.length (fun gh i wr => ∃ k : Nat, gh = l.length - k ∧ i = .int .i64 k ∧ k ≤ l.length ∧ wr = w ∧ Hid ((l.take k).any id = false))
  case atStart => exact ⟨0, by omega, rfl, by omega, rfl, by simp [Hid]⟩
  case round =>
    obtain ⟨k, rfl, rfl, hk, rfl, HE⟩ := hrel
    by_cases hlt : k < l.length
    · obtain rfl := g0.ad (by omega)
      have e1 := g0.el k hlt
      unfold bvF at e1
      rw [getD_lt _ _ _ hlt] at e1
      have HN : Hid ((l.take (k + 1)).any id = ((l.take k).any id || id l[k])) := any_take_succ _ _ _ hlt
      have HT : Hid (l[k] = true → l.any id = true) := fun h => List.any_eq_true.2 ⟨_, List.getElem_mem hlt, h⟩
      generalize l[k] = x at *
      cases x with
      | true =>
        have HT2 := Lib.hid (HT.out rfl)
        go_wp2
        go_ret
        exact ⟨ret_bool HT2.out.symm, Below.refl _ _⟩
      | false =>
        go_wp2
        go_roundg (l.length - (k + 1))
        case rel => exact ⟨k + 1, rfl, by go_num, by omega, rfl, by show _ = _; rw [HN.out, HE.out]; rfl⟩
        case measure => omega
    · obtain rfl : k = l.length := by omega
      rw [List.take_length] at HE
      go_wp2
      go_ret
      exact ⟨ret_bool HE.out.symm, Below.refl _ _⟩

def woK (a b : List Bool) (k : Nat) : List Bool := (List.range k).map fun i => a.getD i false && !b.getD i false
theorem woK_succ (a b : List Bool) (k : Nat) : woK a b (k + 1) = woK a b k ++ [a.getD k false && !b.getD k false] := by simp [woK, List.range_succ]

set_option maxHeartbeats 1000000 in
theorem RWithout_c (w : World) (va vb : Value) (a b : List Bool) (ha : IsBools w va a) (hb : IsBools w vb b) (hl : a.length ≤ b.length) :
    Calls Try.prog 53 #[va, vb] w (NewBools (withoutL a b) w) := by
  obtain ⟨ao1, cap1, b1, off1, rfl, ha⟩ := ha
  obtain ⟨ao2, cap2, b2, off2, rfl, hb⟩ := hb
  have hn1 := ha.nb
  have HL := Lib.hid hl
  clear hl
  go_enter Try.func53, Try.ntmps53
  go_wp2
  go_loopg [5, 6] a.length (fun gh v i wr => ∃ k : Nat, gh = a.length - k ∧ i = .int .i64 k ∧ k ≤ a.length ∧ OB wr w.heap.size v (woK a b k) ∧ Below w.heap.size w wr)
  case atStart => exact ⟨0, by omega, rfl, by omega, OB_nil _ _, Below.refl _ _⟩
  case round =>
    obtain ⟨k, rfl, rfl, hk, hown, hB⟩ := hrel
    by_cases hlt : k < a.length
    · obtain rfl := ha.ad (by omega)
      have hlb : k < b.length := Nat.lt_of_lt_of_le hlt HL.out
      obtain rfl := hb.ad (by omega)
      have c1 := cellB hB (ha.el k hlt)
      have c2 := cellB hB (hb.el k hlb)
      unfold bvF at c1 c2
      have hBs := hB.size
      have hnl : (woK a b k).length < 140737488351232 := by simp [woK]; omega
      have HO := Lib.hid hown
      have HS := Lib.hid (woK_succ a b k)
      have HB := Lib.hid hB
      clear hown hB
      generalize a.getD k false = x at *
      generalize b.getD k false = y at *
      cases x <;> cases y
      all_goals
        go_wp2_with (at_builtin; refine app_bool rfl _ _ _ rfl w.heap.size _ _ HO.out rfl _ (by simp) rfl hnl hBs ?_; intro v' w' hown' hg hmv)
        go_roundg (a.length - (k + 1))
        case rel => exact ⟨k + 1, rfl, by go_num, by omega, by rw [HS.out]; exact hown', HB.out.grown hg hBs (fun g hg => (HO.out.lt g hg).1)⟩
        case measure => omega
    · obtain rfl : k = a.length := by omega
      go_wp2
      go_ret
      exact ⟨_, rfl, hown, hB⟩

theorem OB_emptyN (w : World) (n : Nat) (h : n = w.heap.size) : OB (w.alloc (.cells #[] 4)) n (.slice (some ⟨n, 0, none⟩) 0 0) [] := h ▸ World.ownsRow_made w #[] 0 (Nat.le_refl _) (by simp [maxLen]) rfl
theorem OB.atD {w : World} {base g n cap : Nat} {l : List Bool} (h : OB w base (.slice (some ⟨g, 0, none⟩) n cap) l) (hn : n = l.length) (j : Nat) (hj : j < l.length) : w.cell? ⟨g, j, none⟩ = some (.bool (l.getD j false)) := by
  rw [getD_lt _ _ _ hj]; exact h.at' hn j hj
theorem OI.atD {w : World} {base g n cap : Nat} {l : List Int} (h : OI w base (.slice (some ⟨g, 0, none⟩) n cap) l) (hn : n = l.length) (j : Nat) (hj : j < l.length) : w.cell? ⟨g, j, none⟩ = some (.int .i64 (l.getD j 0)) := by
  rw [getD_lt _ _ _ hj]; exact h.at' hn j hj

set_option maxRecDepth 100000 in
set_option maxHeartbeats 4000000 in
theorem RAttract23_c (w : World) (vg vs vt : Value) (g : Gm) (p : Int) (s t : List Bool) (n : Nat) (hg : IsGame w vg g) (hs : IsBools w vs s) (ht : IsBools w vt t)
    (hsl : s.length = n) (htl : t.length = n) (hon : g.owner.length = n) (hsn : g.succ.length = n) (hn : n ≤ 3000)
    (hrg : ∀ i, i < n → ∀ x ∈ g.succ.getD i [], ∃ v : Nat, x = v ∧ v < n) :
    Calls Try.prog 54 #[vg, vs, .int .i64 p, vt] w (NewBools (raRounds g p s n t n) w) := by
  obtain ⟨v0, v1, v2, rfl, ⟨⟨ao0, cap0, b0, off0, rfl, g0⟩, -⟩, ⟨⟨ao1, cap1, b1, off1, rfl, -⟩, -⟩, ⟨V, ⟨ao2, cap2, b2, off2, rfl, g2⟩, hr⟩⟩ := hg
  obtain ⟨aos, caps, bs, offs, rfl, gs⟩ := hs
  have HT := Lib.hid ht
  obtain ⟨aot, capt, bt, offt, rfl, -⟩ := ht
  have HTL := Lib.hid htl
  rw [hsn] at g2 hr ⊢
  rw [hon] at g0 ⊢
  rw [hsl] at gs ⊢
  rw [htl] at HT ⊢
  have HR := Lib.hid hr
  have HRG := Lib.hid hrg
  clear hsl htl hon hsn hrg hr
  obtain ⟨pn, hpn⟩ : ∃ k : Nat, k = g.prio.length := ⟨_, rfl⟩
  rw [← hpn]
  clear hpn
  go_enter Try.func54, Try.ntmps54
  go_wp2_with (at_builtin; go_loud (refine app_bools rfl _ _ rfl (w.heap.size + 1) _ _ [] t (OB_emptyN _ _ (by simp)) rfl (HT.out.below (by repeat (first | exact Below.refl _ _ | assumption | (refine belA ?_ _) | (refine belD ?_ _)))) rfl (by simp; rw [HTL.out]; omega) (by simp) ?_; intro vi w2 hown hg2 hmv))
  have hbx2 : Boxed w w2 #[Value.slice ao0 n cap0, Value.slice ao1 pn cap1, Value.slice ao2 n cap2] := (Boxed.start (Below.refl _ _)).stepB (((Below.refl _ _).alloc (by simp) _).grown hg2 (by simp) (fun k hk => by simp [Value.ownBlock] at hk; omega))
  simp only [List.nil_append] at hown
  obtain ⟨aoi, capi, rfl⟩ := hown.slice
  rw [HTL.out] at hown ⊢
  clear hg2 hmv
  have d2 := hbx2.cell 2 rfl
  go_wp2
  clear d2
  go_loopg [10] n (fun gh r wr => ∃ k : Nat, gh = n - k ∧ r = .int .i64 k ∧ k ≤ n ∧ Boxed w wr #[Value.slice ao0 n cap0, Value.slice ao1 pn cap1, Value.slice ao2 n cap2] ∧ OB wr (w.heap.size + 1) (.slice aoi n capi) (raRounds g p s n t k))
  case atStart => exact ⟨0, by omega, rfl, by omega, hbx2, hown⟩
  case round =>
    obtain ⟨k, hgk, rfl, hk, hB, hO⟩ := hrel
    have HG := Lib.hid hgk
    clear hgk hown hbx2
    have d2 := hB.cell 2 rfl
    by_cases hlt : k < n
    · have HL : Hid ((raRounds g p s n t k).length = n) := (raRounds_len ..).trans HTL.out
      have HNX : Hid (raRounds g p s n t (k + 1) = raUpto g p s (raRounds g p s n t k) n) := rfl
      generalize raRounds g p s n t k = inn0 at *
      obtain ⟨gi, ci, hv, hgi, -⟩ := hO.row (by rw [HL.out]; omega)
      simp only [Value.slice.injEq] at hv
      obtain ⟨rfl, -, rfl⟩ := hv
      go_wp2
      clear d2
      go_loopg [11] n (fun gh i wx => ∃ j : Nat, gh = n - j ∧ i = .int .i64 j ∧ j ≤ n ∧ Boxed w wx #[Value.slice ao0 n cap0, Value.slice ao1 pn cap1, Value.slice ao2 n cap2] ∧ OB wx (w.heap.size + 1) (.slice (some ⟨gi, 0, none⟩) n capi) (raUpto g p s inn0 j))
      case atStart => exact ⟨0, by omega, rfl, by omega, hB, hO⟩
      case round =>
        obtain ⟨j, hgj, rfl, hj, hB2, hO2⟩ := hrel
        have HGJ := Lib.hid hgj
        clear hgj hB hO
        have d2 : wr.cell? ⟨w.heap.size, 2, none⟩ = some (Value.slice ao2 n cap2) := hB2.cell 2 rfl
        by_cases hltj : j < n
        · have HL2 : Hid ((raUpto g p s inn0 j).length = n) := (raUpto_len ..).trans HL.out
          have HST : Hid (raUpto g p s inn0 (j + 1) = raStep g p s (raUpto g p s inn0 j) j) := rfl
          generalize raUpto g p s inn0 j = inn at *
          obtain rfl := gs.ad (by omega)
          obtain rfl := g0.ad (by omega)
          obtain rfl := g2.ad (by omega)
          have cs := cellB hB2.bl (gs.el j hltj)
          have ci := hO2.atD HL2.out.symm j (by rw [HL2.out]; exact hltj)
          unfold bvF at cs
          have HB2 := Lib.hid hB2
          have HO2 := Lib.hid hO2
          have HC : Hid (raStep g p s inn j = if s.getD j false && !inn.getD j false then inn.set j (raB g p s inn j) else inn) := rfl
          cases hsj : s.getD j false with
          | false =>
            rw [hsj] at cs
            clear hB2 hO2 ci
            go_wp2
            go_roundg (n - (j + 1))
            case measure => have := HGJ.out; omega
            case rel => exact ⟨j + 1, rfl, by go_num, by omega, HB2.out, by rw [HST.out, HC.out, hsj]; exact HO2.out⟩
          | true =>
            cases hij : inn.getD j false with
            | true =>
              rw [hsj] at cs
              rw [hij] at ci
              clear hB2 hO2
              go_wp2
              go_roundg (n - (j + 1))
              case measure => have := HGJ.out; omega
              case rel => exact ⟨j + 1, rfl, by go_num, by omega, HB2.out, by rw [HST.out, HC.out, hsj, hij]; exact HO2.out⟩
            | false =>
              rw [hsj] at cs
              rw [hij] at ci
              have HC2 : Hid (raStep g p s inn j = inn.set j (raB g p s inn j)) := by show _ = _; rw [HC.out, hsj, hij]; rfl
              have HRB : Hid (raB g p s inn j = (decide (g.owner.getD j 0 = p) && ((g.succ.getD j []).any fun x => inS s x && inS inn x) || decide (g.owner.getD j 0 ≠ p) && ((g.succ.getD j []).all fun x => !inS s x || inS inn x))) := rfl
              have co := cellB hB2.bl (g0.el j hltj)
              unfold ivF at co
              have cv := cellB hB2.bl (g2.el j hltj)
              obtain ⟨⟨ao3, cap3, b3, off3, hv3, g3⟩, -⟩ := HR.out j hltj
              rw [hv3] at cv
              have HRGJ := Lib.hid (HRG.out j hltj)
              have hn3 := g3.nb
              have d0 : wr.cell? ⟨w.heap.size, 0, none⟩ = some (Value.slice (some ⟨b0, off0, none⟩) n cap0) := hB2.cell 0 rfl
              clear hsj hij hv3 hB2 hO2
              generalize g.succ.getD j [] = row at *
              generalize g.owner.getD j 0 = ow at *
              have HCO := Lib.hid co
              have HD0 := Lib.hid d0
              obtain ⟨wx, rfl⟩ : ∃ wx : World, wx = wr := ⟨_, rfl⟩
              have HCI := Lib.hid ci
              have HCS : Hid (∀ m, m < n → wx.cell? ⟨bs, offs + m, none⟩ = some (.bool (s.getD m false))) := fun m hm => cellB HB2.out.bl (gs.el m hm)
              have HCN : Hid (∀ m, m < n → wx.cell? ⟨gi, m, none⟩ = some (.bool (inn.getD m false))) := fun m hm => HO2.out.atD HL2.out.symm m (by rw [HL2.out]; exact hm)
              clear co d0
              go_wp2
              clear cs ci
              go_loopg [12, 13, 14] row.length (fun gh so al i wy => ∃ m : Nat, gh = row.length - m ∧ so = .bool ((row.take m).any fun x => inS s x && inS inn x) ∧ al = .bool ((row.take m).all fun x => !inS s x || inS inn x) ∧ i = .int .i64 m ∧ m ≤ row.length ∧ wx = wy)
              case atStart => exact ⟨0, by omega, rfl, rfl, rfl, by omega, rfl⟩
              case round =>
                obtain ⟨m, hgm, rfl, rfl, rfl, hm, rfl⟩ := hrel
                have HGM := Lib.hid hgm
                clear hgm
                by_cases hltm : m < row.length
                · obtain rfl := g3.ad (by omega)
                  have c3 := cellB HB2.out.bl (g3.el m hltm)
                  unfold ivF at c3
                  rw [getD_lt _ _ _ hltm] at c3
                  obtain ⟨q, hq, hqn⟩ := HRGJ.out _ (List.getElem_mem hltm)
                  have HA1 := Lib.hid (any_take_succ row (fun x => inS s x && inS inn x) m hltm)
                  have HA2 := Lib.hid (all_take_succ row (fun x => !inS s x || inS inn x) m hltm)
                  rw [hq] at c3 HA1 HA2
                  have c4 := HCS.out q hqn
                  have c5 := HCN.out q hqn
                  have HE1 : Hid (inS s (q : Int) = s.getD q false) := by show _ = _; unfold inS; rw [Int.toNat_natCast]
                  have HE2 : Hid (inS inn (q : Int) = inn.getD q false) := by show _ = _; unfold inS; rw [Int.toNat_natCast]
                  rw [HE1.out, HE2.out] at HA1 HA2
                  clear hq HE1 HE2
                  generalize s.getD q false = x at *
                  generalize inn.getD q false = y at *
                  generalize ((row.take m).any fun x => inS s x && inS inn x) = so at *
                  generalize ((row.take m).all fun x => !inS s x || inS inn x) = al at *
                  cases x <;> cases y <;> cases so <;> cases al
                  all_goals
                    go_wp2
                    go_roundg (row.length - (m + 1))
                    case measure => have := HGM.out; omega
                    case rel => exact ⟨m + 1, rfl, by rw [HA1.out]; rfl, by rw [HA2.out]; rfl, by go_num, by omega, rfl⟩
                · obtain rfl : m = row.length := by omega
                  rw [List.take_length]
                  have co := HCO.out
                  have d0 := HD0.out
                  have fi := HO2.out.fz HL2.out.symm j
                  have ci := HCI.out
                  have HB3 : Hid (∀ b : Bool, Boxed w (wx.setCell ⟨gi, j, none⟩ (.bool b)) #[Value.slice (some ⟨b0, off0, none⟩) n cap0, Value.slice ao1 pn cap1, Value.slice (some ⟨b2, off2, none⟩) n cap2]) := fun b => HB2.out.stepB ((Below.refl _ _).setCell hgi _)
                  have HO3 : Hid (∀ b : Bool, OB (wx.setCell ⟨gi, j, none⟩ (.bool b)) (w.heap.size + 1) (.slice (some ⟨gi, 0, none⟩) n capi) (inn.set j b)) := fun b => HO2.out.set HL2.out.symm j b
                  generalize (row.any fun x => inS s x && inS inn x) = so at *
                  generalize (row.all fun x => !inS s x || inS inn x) = al at *
                  by_cases ho : ow = p
                  · have hq1 : (ow == p) = true := by simpa using ho
                    have hq2 : (ow != p) = false := by simpa using ho
                    have HV : Hid (raB g p s inn j = so) := by show _ = _; rw [HRB.out]; simp [ho]
                    clear ho
                    cases so
                    all_goals
                      go_wp2
                      go_roundg (n - (j + 1))
                      case measure => have := HGJ.out; omega
                      case rel => exact ⟨j + 1, rfl, by go_num, by omega, HB3.out _, by rw [HST.out, HC2.out, HV.out]; exact HO3.out _⟩
                  · have hq1 : (ow == p) = false := by simpa using ho
                    have hq2 : (ow != p) = true := by simpa using ho
                    have HV : Hid (raB g p s inn j = al) := by show _ = _; rw [HRB.out]; simp [ho]
                    clear ho
                    cases al
                    all_goals
                      go_wp2
                      go_roundg (n - (j + 1))
                      case measure => have := HGJ.out; omega
                      case rel => exact ⟨j + 1, rfl, by go_num, by omega, HB3.out _, by rw [HST.out, HC2.out, HV.out]; exact HO3.out _⟩
        · obtain rfl : n = j := by omega
          go_wp2
          go_roundg (n - (k + 1))
          case measure => have := HG.out; omega
          case rel => exact ⟨k + 1, rfl, by go_num, by omega, hB2, by rw [HNX.out]; exact hO2⟩
    · obtain rfl : n = k := by omega
      go_wp2
      go_ret
      exact ⟨_, rfl, hO.base (Nat.le_succ _), hB.bl⟩

end Go.Proofs.Ytjhafakkadnfmaa
