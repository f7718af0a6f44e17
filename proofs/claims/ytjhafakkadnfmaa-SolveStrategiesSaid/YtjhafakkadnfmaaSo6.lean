/- What revive and the functions in run do. -/
import Derived.Test.YtjhafakkadnfmaaSo5
namespace Go.Proofs.Ytjhafakkadnfmaa
open Go.RowKit

def incAll (l row : List Int) : List Int := row.foldl (fun l v => l.set v.toNat (l.getD v.toNat 0 + 1)) l
def revAll (bf : List (List Int)) (l part : List Int) : List Int := part.foldl (fun l u => incAll l (bf.getD u.toNat [])) l
theorem incAll_snoc (l row : List Int) (v : Int) : incAll l (row ++ [v]) = (incAll l row).set v.toNat ((incAll l row).getD v.toNat 0 + 1) := by simp [incAll]
theorem revAll_snoc (bf : List (List Int)) (l part : List Int) (u : Int) : revAll bf l (part ++ [u]) = incAll (revAll bf l part) (bf.getD u.toNat []) := by simp [revAll]
theorem incAll_len (row : List Int) : ∀ l, (incAll l row).length = l.length := by
  induction row with
  | nil => intro l; rfl
  | cons v row ih => intro l; show (incAll _ row).length = _; rw [ih, List.length_set]
theorem revAll_len (bf : List (List Int)) (part : List Int) : ∀ l, (revAll bf l part).length = l.length := by
  induction part with
  | nil => intro l; rfl
  | cons v part ih => intro l; show (revAll bf _ part).length = _; rw [ih, incAll_len]
theorem incAll_get (row : List Int) : ∀ l, (∀ x ∈ row, ∃ y : Nat, x = y ∧ y < l.length) → ∀ v : Nat, v < l.length → (incAll l row).getD v 0 = l.getD v 0 + (row.count (v : Int) : Nat) := by
  induction row with
  | nil => intro l _ v _; simp [incAll]
  | cons x row ih =>
    intro l hr v hv
    obtain ⟨y, rfl, hy⟩ := hr x (by simp)
    show (incAll (l.set y (l.getD y 0 + 1)) row).getD v 0 = _
    rw [ih _ (fun x hx => by rw [List.length_set]; exact hr x (by simp [hx])) v (by rw [List.length_set]; exact hv), getD_setI _ _ _ _ hy, List.count_cons]
    by_cases h : y = v
    · subst h; simp; omega
    · have : ((y : Int) == (v : Int)) = false := by simp; omega
      rw [if_neg h, this]; simp
/-- How often a position is in the rows of a part. -/
def rowsC (bf : List (List Int)) (part : List Int) (v : Nat) : Nat := (part.map fun u => (bf.getD u.toNat []).count (v : Int)).sum
theorem revAll_get {n : Nat} (bf : List (List Int)) (hb : ∀ u, ∀ x ∈ bf.getD u [], ∃ y : Nat, x = y ∧ y < n) (part : List Int) : ∀ l : List Int, l.length = n → ∀ v : Nat, v < n → (revAll bf l part).getD v 0 = l.getD v 0 + (rowsC bf part v : Nat) := by
  induction part with
  | nil => intro l _ v _; simp [revAll, rowsC]
  | cons u part ih =>
    intro l hl v hv
    show (revAll bf (incAll l (bf.getD u.toNat [])) part).getD v 0 = _
    rw [ih _ (by rw [incAll_len, hl]) v hv, incAll_get _ _ (fun x hx => by rw [hl]; exact hb _ x hx) v (by omega)]
    have : rowsC bf (u :: part) v = (bf.getD u.toNat []).count (v : Int) + rowsC bf part v := by simp [rowsC]
    rw [this]; omega
theorem rowsC_le (bf : List (List Int)) (M : Nat) (hM : ∀ u, (bf.getD u []).length ≤ M) (part : List Int) (v : Nat) : rowsC bf part v ≤ part.length * M := by
  induction part with
  | nil => simp [rowsC]
  | cons u part ih =>
    have : rowsC bf (u :: part) v = (bf.getD u.toNat []).count (v : Int) + rowsC bf part v := by simp [rowsC]
    have h1 := List.count_le_length (l := bf.getD u.toNat []) (a := (v : Int))
    have h2 := hM u.toNat
    rw [this, List.length_cons, Nat.add_mul]; omega

/-- What revive leaves. -/
def Revived (w : World) (D : Ad) (n : Nat) (bf : List (List Int)) (al : List Bool) (lf wn part : List Int) (e : Ending) (w' : World) : Prop :=
  e = .returned (.tuple #[]) ∧ OB w' 0 (.slice (some ⟨D.ba, 0, none⟩) n n) (liftB al part true) ∧ OI w' 0 (.slice (some ⟨D.bl, 0, none⟩) n n) (revAll bf lf part) ∧ OI w' 0 (.slice (some ⟨D.bw, 0, none⟩) n n) wn ∧ Only D.hot w w'

set_option maxRecDepth 100000 in
set_option maxHeartbeats 4000000 in
theorem revive_c (w : World) (D : Ad) (g : Gm) (n : Nat) (bf : List (List Int)) (al : List Bool) (lf wn : List Int) (vp : Value) (part : List Int) (hS : Sv w.heap.size w D g n bf al lf wn) (hG : GOK g n bf) (hp : Kp w.heap.size w D vp part)
    (hr : ∀ x ∈ part, ∃ v : Nat, x = v ∧ v < n) (hpl : part.length ≤ 3000) (hlf : ∀ v, v < n → 0 ≤ lf.getD v 0 ∧ lf.getD v 0 ≤ 1000) :
    Calls Try.prog 48 #[.pointer (some ⟨D.sp, 0, none⟩), vp] w (Revived w D n bf al lf wn part) := by
  obtain ⟨aop, capp, bp, op, rfl, -⟩ := hp.is.1
  have HP := Lib.hid hp
  have HGO := Lib.hid hG
  have HR := Lib.hid (fun k (hk : k < part.length) => hr part[k] (List.getElem_mem hk))
  have HLf := Lib.hid hlf
  have c4 := hS.field 4 rfl
  have HS := Lib.hid hS
  have hhot := hS.hb
  have hrr := Lib.hid hr
  have HLL := Lib.hid hS.ll
  clear hp hG hr hlf hS
  go_enter Try.func48, Try.ntmps48
  go_wp2_with fail
  refine (liftB_c w D.ba n _ al part true HS.out.a HS.out.la (fun W hW => HP.out W (hW.mono fun _ _ e => .inl (.inl e))) hrr.out).mono ?_
  rintro e w2 ⟨rfl, hA2, hO2⟩
  have HS2 : Hid (Sv w.heap.size w2 D g n bf (liftB al part true) lf wn) := HS.out.toA hO2 hA2 (by rw [liftB_len]; exact HS.out.la)
  have HH2 : Hid (Only D.hot w w2) := Only.one hO2 (.inl rfl)
  clear hA2 hO2 c4
  go_wp2
  go_loopg [5, 16] part.length (fun gh _ i wr => ∃ k : Nat, gh = part.length - k ∧ i = .int .i64 k ∧ k ≤ part.length ∧ Hid (Sv w.heap.size wr D g n bf (liftB al part true) (revAll bf lf (part.take k)) wn) ∧ Hid (Only D.hot w wr))
  case atStart => exact ⟨0, by omega, rfl, by omega, HS2, HH2⟩
  case round =>
    clear HS2 HH2 HS
    obtain ⟨k, rfl, rfl, hk, HSv, HH⟩ := hrel
    by_cases hlt : k < part.length
    · obtain ⟨⟨ap', cp', bp', op', hvp, gp⟩, -⟩ := HP.out wr HH.out.orB
      obtain ⟨rfl, rfl⟩ : aop = ap' ∧ capp = cp' := by simpa using hvp
      obtain rfl := gp.ad (by omega)
      have e1 := gp.el k hlt
      unfold ivF at e1
      rw [getD_lt _ _ _ hlt] at e1
      obtain ⟨u, hu, hun⟩ := HR.out k hlt
      rw [hu] at e1
      have hF := HSv.out.fx wr (Only.refl _ _)
      have c3 := HSv.out.field 3 rfl
      obtain ⟨ab, cb, bb, ob, hvb, gB⟩ := hF.be
      obtain ⟨⟨ar, cr, br, or_, hVr, gR⟩, -⟩ := hF.br u hun
      obtain rfl := gB.ad (by omega)
      have e2 := gB.el u hun
      rw [hvb] at c3
      rw [hVr] at e2
      have hnr := gR.nb
      have hrow : Hid (∀ k, k < (bf.getD u []).length → ∃ v : Nat, (bf.getD u []).getD k 0 = v ∧ v < n) := fun k hk => HGO.out.bo.rg u _ (get_mem hk)
      have HVr := Lib.hid hVr
      have HNx : Hid (revAll bf lf (part.take (k + 1)) = incAll (revAll bf lf (part.take k)) (bf.getD u [])) := by
        show _ = _
        rw [List.take_succ_eq_append_getElem hlt, revAll_snoc, hu, Int.toNat_natCast]
      have HBd : Hid (∀ v, v < n → 0 ≤ (revAll bf lf (part.take k)).getD v 0 ∧ (revAll bf lf (part.take k)).getD v 0 ≤ 9000001000) := fun v hv => by
        rw [revAll_get bf HGO.out.bo.rg _ lf HLL.out v hv]
        have h1 := HLf.out v hv
        have h2 := rowsC_le bf 3000000 HGO.out.bs (part.take k) v
        have h3 : (part.take k).length * 3000000 ≤ 3000 * 3000000 := Nat.mul_le_mul_right _ (by rw [List.length_take]; omega)
        omega
      have hbs := HGO.out.bs u
      have hrg := HGO.out.bo.rg u
      have HRg := Lib.hid hrg
      clear hF gB gR hVr hvb hrg gp hvp
      generalize hre : bf.getD u [] = row at *
      have HRe := Lib.hid hre
      clear hre
      generalize revAll bf lf (part.take k) = lk at *
      go_wp2
      obtain ⟨wo, rfl⟩ : ∃ wo : World, wo = wr := ⟨_, rfl⟩
      go_loopg [7, 28] row.length (fun gh _ i wx => ∃ j : Nat, gh = row.length - j ∧ i = .int .i64 j ∧ j ≤ row.length ∧ Hid (Sv w.heap.size wx D g n bf (liftB al part true) (incAll lk (row.take j)) wn) ∧ Hid (Only D.hot w wx))
      case atStart => exact ⟨0, by omega, rfl, by omega, HSv, HH⟩
      case round =>
        have HLk := Lib.hid HSv.out.ll
        clear HSv HH e1 e2 c3
        obtain ⟨j, rfl, rfl, hj, HSv, HH⟩ := hrel
        by_cases hlj : j < row.length
        · obtain ⟨v, hv, hvn⟩ := hrow.out j hlj
          have hF := HSv.out.fx wr (Only.refl _ _)
          obtain ⟨⟨ar', cr', br', or', hVr', gR⟩, -⟩ := hF.br u hun
          rw [HRe.out] at hVr' gR
          obtain ⟨rfl, rfl⟩ : ar = ar' ∧ cr = cr' := by simpa using HVr.out.symm.trans hVr'
          obtain rfl := gR.ad (by omega)
          have e3 := gR.el j hlj
          unfold ivF at e3
          rw [hv] at e3
          have HNy : Hid (incAll lk (row.take (j + 1)) = (incAll lk (row.take j)).set v ((incAll lk (row.take j)).getD v 0 + 1)) := by
            show _ = _
            rw [List.take_succ_eq_append_getElem hlj, incAll_snoc, ← getD_lt _ 0 _ hlj, hv, Int.toNat_natCast]
          have hbd : 0 ≤ (incAll lk (row.take j)).getD v 0 ∧ (incAll lk (row.take j)).getD v 0 ≤ 9003001000 := by
            rw [incAll_get _ _ (fun x hx => by rw [HLk.out]; exact HRg.out x (List.mem_of_mem_take hx)) v (by rw [HLk.out]; exact hvn)]
            have h1 := HBd.out v hvn
            have h2 := List.count_le_length (l := row.take j) (a := (v : Int))
            rw [List.length_take] at h2
            omega
          clear hF gR hVr'
          have c5 := HSv.out.field 5 rfl
          obtain ⟨l1, l2⟩ := HSv.out.cellL hvn
          have HS1 := Lib.hid (HSv.out.setL v ((incAll lk (row.take j)).getD v 0 + 1))
          have HH1 : Hid (Only D.hot w (wr.setCell ⟨D.bl, v, none⟩ (.int .i64 ((incAll lk (row.take j)).getD v 0 + 1)))) := HH.out.trans (Only.one (Only.set _ _ _ rfl) (.inr (.inl rfl)))
          rw [← HNy.out] at HS1
          clear HNy HSv HH hv
          generalize (incAll lk (row.take j)).getD v 0 = x at *
          have hs1 : IntKind.i64.wrap (x + 1) = x + 1 := IntWalk.i64_in _ ⟨by omega, by omega⟩
          go_wp2
          go_roundg (row.length - (j + 1))
          case rel => exact ⟨j + 1, rfl, by go_num, by omega, HS1, HH1⟩
          case measure => omega
        · obtain rfl : j = row.length := by omega
          rw [List.take_length, ← HNx.out] at HSv
          go_wp2
          go_roundg (part.length - (k + 1))
          case rel => exact ⟨k + 1, rfl, by go_num, by omega, HSv, HH⟩
          case measure => omega
    · obtain rfl : k = part.length := by omega
      rw [List.take_length] at HSv
      go_wp2
      go_end0
      exact ⟨rfl, HSv.out.a, HSv.out.l, HSv.out.w, HH.out⟩

end Go.Proofs.Ytjhafakkadnfmaa
