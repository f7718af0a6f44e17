/- Contracts in terms of values in view. -/
import Derived.Test.YtgjpdnaeldpdeaaWdH2
import Derived.Test.YtgjpdnaeldpdeaaWd41
import Derived.Test.YtgjpdnaeldpdeaaWd24
import Derived.Test.YtgjpdnaeldpdeaaWd27
import Derived.Test.YtgjpdnaeldpdeaaWd34
namespace Go.Proofs.Ytgjpdnaeldpdeaa
open Go.RowKit

theorem hg_zip (W : World) {va vb vt : Value} {a b l' : Ls} {t : List (List Int)} (ha : LV a va W) (hb : LV b vb W) (ht : RV t vt W) (hl : zipI a b t = l') : Calls Try.prog 28 #[va, vb, vt] W (GiveL l' W) := hd_zip Zip_c W ha hb ht hl
theorem hr_zip (W : World) {va vb vt : Value} {a b l' : Ls} {t : List (List Int)} (ha : LV a va W) (hb : LV b vb W) (ht : RV t vt W) (hl : zipI a b t = l') : Calls Try.prog 29 #[va, vb, vt] W (GiveL l' W) := (RZip_c W va vb vt a b t ha.is hb.is ht).mono fun _ _ h => h.give hl
theorem hr_normal (W : World) {v : Value} {l l' : Ls} (h : LV l v W) (hl : normalI l = l') : Calls Try.prog 21 #[v] W (GiveL l' W) := (RNormal_c W v l h.is).mono fun _ _ h => h.give hl
theorem hr_suffix (W : World) {v : Value} {l l' : Ls} {i : Int} (h : LV l v W) (hi : I64 i) (hl : suffixI l i = l') : Calls Try.prog 25 #[v, .int .i64 i] W (GiveL l' W) := (RSuffix_c W v l i h.is hi).mono fun _ _ h => h.give hl
theorem hr_push (W : World) {va v : Value} {a : List Int} {l l' : Ls} (ha : SL a va W) (h : LV l v W) (hn : a.length ≤ 90000) (hl : pushI a l = l') : Calls Try.prog 27 #[va, v] W (GiveL l' W) := (RPush_c W va v a l ha.is h.is hn).mono fun _ _ h => h.give hl
theorem hr_at (W : World) {v : Value} {l : Ls} {i x : Int} (h : LV l v W) (hi : I64 i) (hx : atI l i = x) : Calls Try.prog 15 #[v, .int .i64 i] W (Calm (.int .i64 x) W) := by
  rw [← hx]; exact RAt_c W v l i h.is hi
theorem hr_same (W : World) {v v' : Value} {l l' : Ls} {q : Bool} (h : LV l v W) (h' : LV l' v' W) (hq : sameI l l' = q) : Calls Try.prog 23 #[v, v'] W (Calm (.bool q) W) := by
  rw [← hq]; exact RSame_c W v v' l l' h.is h'.is
theorem hr_valid (W : World) {v : Value} {l : Ls} {k : Int} {q : Bool} (h : LV l v W) (hq : validI k l = q) : Calls Try.prog 13 #[.int .i64 k, v] W (Calm (.bool q) W) := by
  rw [← hq]; exact RValid_c W v l k h.is
theorem hr_prefix (W : World) {v : Value} {l : Ls} {i : Int} {n : List Int} (h : LV l v W) (hi : I64 i) (hn : prefixI l i = n) : Calls Try.prog 18 #[v, .int .i64 i] W (GiveN n W) := (RPrefix_c W v l i h.is hi).mono fun _ _ h => h.give hn
theorem hr_formed (W : World) {v : Value} {l : Ls} {q : Bool} (h : LV l v W) (hq : formB l = q) : Calls Try.prog 30 #[v] W (Calm (.bool q) W) := by
  rw [← hq]; exact RFormed_c W v l h.is
theorem hd_short (W : World) {v : Value} {l : Ls} {q : Bool} (h : LV l v W) (hq : shortB l = q) : Calls Try.prog 11 #[v] W (Calm (.bool q) W) := by
  rw [← hq]; exact Short_c W v l h.is
theorem hd_agree (W : World) {v v' : Value} {l l' : Ls} {n : Nat} {q : Bool} (h : LV l v W) (h' : LV l' v' W) (hn : n ≤ 1000) (hq : agreeB l l' n = q) : Calls Try.prog 31 #[v, v', .int .i64 n] W (Calm (.bool q) W) := by
  rw [← hq]; exact agree_c W v v' l l' n h.is h'.is hn
theorem hd_eqg (W : World) {v v' : Value} {l l' : Ls} {q : Bool} (h : LV l v W) (h' : LV l' v' W) (hq : decide (l = l') = q) : Calls Try.prog 19 #[v, v'] W (Calm (.bool q) W) := by
  rw [← hq]; exact Equal_c W v v' l l' h.is h'.is
theorem hd_intsg (W : World) {v v' : Value} {l l' : List Int} {q : Bool} (h : SL l v W) (h' : SL l' v' W) (hq : decide (l = l') = q) : Calls Try.prog 16 #[v, v'] W (Calm (.bool q) W) := by
  rw [← hq]; exact (Ints_c W v v' l l' h.is h'.is).mono fun e w' h => h.calm

end Go.Proofs.Ytgjpdnaeldpdeaa
