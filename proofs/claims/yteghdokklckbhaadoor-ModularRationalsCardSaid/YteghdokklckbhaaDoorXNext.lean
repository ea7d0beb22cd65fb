import Derived.Test.YteghdokklckbhaaDoorXPrime
/-!
The contracts of modular.Next and of the law's pick.
-/
open Go Go.Proofs
namespace Ab
set_option maxRecDepth 100000

def nextF (p : Int) : Int × Int :=
  if _h : p ≤ 2147483647 then (if primeF p then (p, 0) else nextF (p + 1)) else (0, 150)
termination_by (2147483648 - p).toNat
decreasing_by omega

theorem next_spec (n : Int) : Spec Tryd.prog glB4 12 [.int .i64 n] (.tup [.int .i64 (nextF (if n < 3 then 3 else n)).1, .int .i64 (nextF (if n < 3 then 3 else n)).2]) := by
  refine spec_fn T_ok mixed_ok 0 Tryd.func12 fn_ok12 (by kernel_rfl) ?_
  refine aw_loop (fun x : Int => stOf [(4, .int .i64 x)] [] 0) (fun x => 3 ≤ x ∧ nextF x = nextF (if n < 3 then 3 else n)) (fun x => (2147483648 - x).toNat) (if n < 3 then 3 else n) ⟨by split <;> omega, rfl⟩ (le_of ?_ ?_ ?_) ?_
  · intro q hq
    simp only [List.mem_cons, List.not_mem_nil, or_false] at hq
    rcases hq with rfl <;> rfl
  · intro q hq; cases hq
  · exact Nat.le_refl _
  · rintro x ⟨hx, hn⟩ P hP
    refine And.intro (fun h => ?_) (fun h => ?_)
    · have h' : x ≤ 2147483647 := of_decide_eq_true h
      rw [nextF, dif_pos h'] at hn
      have hw : w64 (x + 1) = x + 1 := by rw [w64, Go.IntWalk.i64_in _ (by omega)]
      refine Exists.intro _ (And.intro (prime_spec x) ?_)
      refine And.intro (fun h1 => ?_) (fun h1 => ?_)
      · have h1' : primeF x = true := h1
        rw [if_pos h1'] at hn
        refine And.intro (Or.inr rfl) ?_
        rw [← hn]
        exact rfl
      · have h1' : ¬ primeF x = true := by
          have h2 : primeF x = false := h1
          rw [h2]; simp
        rw [if_neg h1'] at hn
        refine hP (x + 1) _ (le_of ?_ ?_ ?_) ⟨by omega, hn⟩ (by omega)
        · intro q hq
          simp only [List.mem_cons, List.not_mem_nil, or_false] at hq
          rcases hq with rfl
          show AV.int .i64 (w64 (x + 1)) = _
          rw [hw]
        · intro q hq; cases hq
        · exact Nat.le_refl _
    · have h' : ¬ x ≤ 2147483647 := of_decide_eq_false h
      rw [nextF, dif_neg h'] at hn
      refine And.intro (Or.inr rfl) ?_
      rw [← hn]
      exact rfl

def pickF (x n : Int) : Int := (if x < 0 then w64 (0 - w64 (x + 1)) else x).tmod n
theorem pick_spec (gl : List (Nat × AV)) (x n : Int) (hn : n ≠ 0) : Spec Tryd.prog gl 11 [.int .i64 x, .int .i64 n] (.int .i64 (pickF x n)) := by
  refine spec_fn T_ok mixed_ok 0 Tryd.func11 fn_ok11 (by kernel_rfl) ?_
  refine And.intro (fun h => ?_) (fun h => ?_)
  · refine And.intro hn ?_
    refine And.intro (Or.inr rfl) ?_
    have h' : x < 0 := of_decide_eq_true h
    unfold pickF
    rw [if_pos h']
    exact rfl
  · refine And.intro hn ?_
    refine And.intro (Or.inr rfl) ?_
    have h' : ¬ x < 0 := of_decide_eq_false h
    unfold pickF
    rw [if_neg h']
    exact rfl
end Ab
