import Derived.Test.YtbcgkonhkoopnaaGreatXSane
open Go Go.Proofs
namespace Ab
set_option maxRecDepth 100000
def maxL : Int -> List Int -> Int
 | m, [] => m
 | m, x :: l => maxL (if m < x then x else m) l
def minL : Int -> List Int -> Int
 | m, [] => m
 | m, x :: l => minL (if x < m then x else m) l
theorem maxL_snoc (l : List Int) (m x : Int) : maxL m (l ++ [x]) = if maxL m l < x then x else maxL m l := by
 induction l generalizing m with
 | nil => rfl
 | cons y l ih => exact ih _
theorem minL_snoc (l : List Int) (m x : Int) : minL m (l ++ [x]) = if x < minL m l then x else minL m l := by
 induction l generalizing m with
 | nil => rfl
 | cons y l ih => exact ih _
theorem max_spec (gl : List (Nat × AV)) (a : Int) (l : List Int) (hl : (l.length : Int) <= 1000000) : Spec Tryz.prog gl 53 [.sl (irows .i64 (a :: l))] (.int .i64 (maxL a l)) := by
 refine spec_fn T_ok mixed_ok 0 Tryz.func53 fn_ok53 (by kernel_rfl) ?_
 have hlen : ((irows .i64 (a :: l)).length : Int) = (l.length : Int) + 1 := by rw [irows_len]; simp
 refine br (fun h1 => ?_) (fun h1 => ?_)
 ·have : ((irows .i64 (a :: l)).length : Int) < 1 := h1
  omega
 ·refine And.intro (by decide) (Exists.intro _ (And.intro (irows_at (x := a) rfl) ?_))
  refine aw_loop (fun k : Nat => stOf [(0, .sl (irows .i64 (a :: l))), (3, .int .i64 (maxL a (l.take k))), (4, .int .i64 ((k : Int) + 1))] [] 0) (fun k => k <= l.length) (fun k => l.length - k) 0 (Nat.zero_le _)
   (le_by ⟨rfl, rfl, rfl, trivial⟩ trivial (Nat.le_refl _)) ?_
  rintro k hk P hP
  refine br (fun h2 => ?_) (fun h2 => ?_)
  ·have hk' : k < l.length := by
    have : (k : Int) + 1 < ((irows .i64 (a :: l)).length : Int) := h2
    omega
   refine And.intro (show (0 : Int) <= (k : Int) + 1 by omega) (Exists.intro _ (And.intro (irows_at (x := l[k]) (by
    rw [show ((k : Int) + 1).toNat = k + 1 by omega]; simp)) ?_))
   refine hP (k + 1) _ (le_by ⟨rfl, int_eq (by
    rw [List.take_add_one, List.getElem?_eq_getElem hk', Option.toList, maxL_snoc]), int_eq (by
    show w64 ((k : Int) + 1 + 1) = _
    rw [w64_eq (by omega)]; simp), trivial⟩ trivial (Nat.le_refl _)) (by omega) (by omega)
  ·clear hP
   have hk' : k = l.length := by
    have : ¬ ((k : Int) + 1 < ((irows .i64 (a :: l)).length : Int)) := h2
    omega
   subst hk'
   rw [List.take_length]
   exact And.intro (Or.inr rfl) rfl
theorem min_spec (gl : List (Nat × AV)) (a : Int) (l : List Int) (hl : (l.length : Int) <= 1000000) : Spec Tryz.prog gl 54 [.sl (irows .i64 (a :: l))] (.int .i64 (minL a l)) := by
 refine spec_fn T_ok mixed_ok 0 Tryz.func54 fn_ok54 (by kernel_rfl) ?_
 have hlen : ((irows .i64 (a :: l)).length : Int) = (l.length : Int) + 1 := by rw [irows_len]; simp
 refine br (fun h1 => ?_) (fun h1 => ?_)
 ·have : ((irows .i64 (a :: l)).length : Int) < 1 := h1
  omega
 ·refine And.intro (by decide) (Exists.intro _ (And.intro (irows_at (x := a) rfl) ?_))
  refine aw_loop (fun k : Nat => stOf [(0, .sl (irows .i64 (a :: l))), (3, .int .i64 (minL a (l.take k))), (4, .int .i64 ((k : Int) + 1))] [] 0) (fun k => k <= l.length) (fun k => l.length - k) 0 (Nat.zero_le _)
   (le_by ⟨rfl, rfl, rfl, trivial⟩ trivial (Nat.le_refl _)) ?_
  rintro k hk P hP
  refine br (fun h2 => ?_) (fun h2 => ?_)
  ·have hk' : k < l.length := by
    have : (k : Int) + 1 < ((irows .i64 (a :: l)).length : Int) := h2
    omega
   refine And.intro (show (0 : Int) <= (k : Int) + 1 by omega) (Exists.intro _ (And.intro (irows_at (x := l[k]) (by
    rw [show ((k : Int) + 1).toNat = k + 1 by omega]; simp)) ?_))
   refine hP (k + 1) _ (le_by ⟨rfl, int_eq (by
    rw [List.take_add_one, List.getElem?_eq_getElem hk', Option.toList, minL_snoc]), int_eq (by
    show w64 ((k : Int) + 1 + 1) = _
    rw [w64_eq (by omega)]; simp), trivial⟩ trivial (Nat.le_refl _)) (by omega) (by omega)
  ·clear hP
   have hk' : k = l.length := by
    have : ¬ ((k : Int) + 1 < ((irows .i64 (a :: l)).length : Int)) := h2
    omega
   subst hk'
   rw [List.take_length]
   exact And.intro (Or.inr rfl) rfl
end Ab
