import Derived.Test.YteghdokklckbhaaDoorXBase
import Derived.Test.YteghdokklckbhaaDoorXFT
open Go Go.Proofs
namespace Ab
set_option maxRecDepth 100000
def tm (a b p : Int) : Int := (IntKind.i64.wrap (a * b)).tmod p
theorem times_spec (gl : List (Nat × AV)) (a b p : Int) (hp : p ≠ 0) : Spec Tryd.prog gl 33 [.int .i64 a, .int .i64 b, .int .i64 p] (.int .i64 (tm a b p)) := by
  refine spec_fn T_ok mixed_ok 0 Tryd.func33 fn_ok33 (by kernel_rfl) ?_
  refine And.intro hp ?_
  refine And.intro (Or.inr rfl) ?_
  exact rfl

theorem half_lt {n : Int} (h : n > 0) : (n.fdiv 2).toNat < n.toNat := by
  rw [Int.fdiv_eq_ediv_of_nonneg _ (by omega)]; omega
def powF (p a n r : Int) : Int :=
  if _h : n > 0 then powF p (tm a a p) (n.fdiv 2) (if Go.bits .and .i64 n 1 == 1 then tm r a p else r) else r
termination_by n.toNat
decreasing_by exact half_lt _h

theorem power_spec (gl : List (Nat × AV)) (a n p : Int) (hp : p ≠ 0) : Spec Tryd.prog gl 32 [.int .i64 a, .int .i64 n, .int .i64 p] (.int .i64 (powF p a n 1)) := by
  refine spec_fn T_ok mixed_ok 1 Tryd.func32 fn_ok32 (by kernel_rfl) ?_
  refine aw_loop (fun x : Int × Int × Int => stOf [(8, .fn 55 [.bp 1 0, .bp 3 0, .bp 0 0, .bp 2 0]), (4, .bp 1 0), (7, .bp 3 0)] [(0, .box [.int .i64 x.1]), (1, .box [.int .i64 x.2.1]), (2, .box [.int .i64 p]), (3, .box [.int .i64 x.2.2])] 4)
    (fun x => powF p x.1 x.2.1 x.2.2 = powF p a n 1) (fun x => x.2.1.toNat) (a, n, 1) rfl (le_of ?_ ?_ ?_) ?_
  · intro q hq
    simp only [List.mem_cons, List.not_mem_nil, or_false] at hq
    rcases hq with rfl | rfl | rfl <;> rfl
  · intro q hq
    simp only [List.mem_cons, List.not_mem_nil, or_false] at hq
    rcases hq with rfl | rfl | rfl | rfl <;> rfl
  · exact Nat.le_refl _
  · rintro ⟨a', n', r'⟩ hpre P hP
    simp only at hpre
    refine And.intro (fun h => ?_) (fun h => ?_)
    · have hn : n' > 0 := of_decide_eq_true h
      rw [powF, dif_pos hn] at hpre
      refine Hn_in Tryd.f55 Tryd.func55 fn_ok55 (by kernel_rfl) ?_
      refine And.intro (fun h1 => ?_) (fun h1 => ?_)
      · have h1' : (Go.bits .and .i64 n' 1 == 1) = true := h1
        rw [if_pos h1'] at hpre
        refine Exists.intro _ (And.intro (times_spec gl _ _ _ hp) ?_)
        refine Exists.intro _ (And.intro (times_spec gl _ _ _ hp) ?_)
        refine And.intro (Or.inl rfl) ?_
        refine And.intro (show (0 : Int) ≤ 1 by decide) ?_
        refine hP (tm a' a' p, n'.fdiv 2, tm r' a' p) _ (le_of ?_ ?_ ?_) hpre (half_lt hn)
        · intro q hq
          simp only [List.mem_cons, List.not_mem_nil, or_false] at hq
          rcases hq with rfl | rfl | rfl <;> rfl
        · intro q hq
          simp only [List.mem_cons, List.not_mem_nil, or_false] at hq
          rcases hq with rfl | rfl | rfl | rfl <;> rfl
        · exact Nat.le_refl _
      · have h1' : ¬ (Go.bits .and .i64 n' 1 == 1) = true := by
          have h2 : (Go.bits .and .i64 n' 1 == 1) = false := h1
          rw [h2]; simp
        rw [if_neg h1'] at hpre
        refine Exists.intro _ (And.intro (times_spec gl _ _ _ hp) ?_)
        refine And.intro (Or.inl rfl) ?_
        refine And.intro (show (0 : Int) ≤ 1 by decide) ?_
        refine hP (tm a' a' p, n'.fdiv 2, r') _ (le_of ?_ ?_ ?_) hpre (half_lt hn)
        · intro q hq
          simp only [List.mem_cons, List.not_mem_nil, or_false] at hq
          rcases hq with rfl | rfl | rfl <;> rfl
        · intro q hq
          simp only [List.mem_cons, List.not_mem_nil, or_false] at hq
          rcases hq with rfl | rfl | rfl | rfl <;> rfl
        · exact Nat.le_refl _
    · have hn : ¬ n' > 0 := of_decide_eq_false h
      rw [powF, dif_neg hn] at hpre
      refine And.intro (Or.inr rfl) ?_
      show AV.int .i64 r' = _
      rw [hpre]

theorem residue_spec (gl : List (Nat × AV)) (a p : Int) (hp : p ≠ 0) : Spec Tryd.prog gl 40 [.int .i64 a, .int .i64 p] (.int .i64 ((IntKind.i64.wrap (a.tmod p + p)).tmod p)) := by
  refine spec_fn T_ok mixed_ok 0 Tryd.func40 fn_ok40 (by kernel_rfl) ?_
  refine And.intro hp ?_
  refine And.intro hp ?_
  refine And.intro (Or.inr rfl) ?_
  exact rfl
end Ab
