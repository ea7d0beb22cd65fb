import Derived.Test.YteghdokklckbhaaDoorXGp
/-!
The walk of ModularPrimes (under way: holes).
-/
open Go Go.Proofs
namespace Ab
set_option maxRecDepth 100000

theorem law1 (hs : Spec Tryd.prog glB4 10 [] (.bool true)) (n a b r : Int) (hm0 : 0 ≤ pickF n 1000000) (hm1 : pickF n 1000000 < 1000000)
    (hr : nextF (if pickF n 1000000 < 3 then 3 else pickF n 1000000) = (r, 0)) (h3 : 3 ≤ r) (hr2 : r ≤ 1000003) (hge : pickF n 1000000 ≤ r) (hp : primeF r = true) (hno : ∀ k, pickF n 1000000 ≤ k → k < r → primeF k = false)
    (hdiv : ∀ d, 2 ≤ d → d * d ≤ r → r.tmod d ≠ 0) (_hx0 : 0 ≤ pickF a 46000) (_hx1 : pickF a 46000 < 46000) (_hy0 : 0 ≤ pickF b 46000) (_hy1 : pickF b 46000 < 46000)
    (hxy : primeF (w64 (w64 (2 + pickF a 46000) * w64 (2 + pickF b 46000))) = false) (hneg : primeF (w64 (0 - r)) = false) (htwo : primeF 2 = false) : Spec Tryd.prog glB4 3 [.int .i64 n, .int .i64 a, .int .i64 b] (.bool true) := by
  have hnext : Spec Tryd.prog glB4 12 [.int .i64 (pickF n 1000000)] (.tup [.int .i64 r, .int .i64 0]) := by
    have := next_spec (pickF n 1000000)
    rw [hr] at this
    exact this
  have hprime : Spec Tryd.prog glB4 13 [.int .i64 r] (.bool true) := by
    have := prime_spec r
    rw [hp] at this
    exact this
  refine spec_fn T_ok mixed_ok 0 Tryd.func3 fn_ok3 (by kernel_rfl) ?_
  refine Exists.intro _ (And.intro hs ?_)
  refine And.intro (fun h => nomatch h) (fun _ => ?_)
  refine Exists.intro _ (And.intro (pick_spec glB4 n 1000000 (by decide)) ?_)
  refine Exists.intro _ (And.intro hnext ?_)
  refine And.intro (fun _ => ?_) (fun h => nomatch h)
  refine And.intro (fun _ => ?_) (fun h => nomatch h)
  refine And.intro (fun _ => ?_) (fun h => nomatch h)
  refine And.intro (fun _ => ?_) (fun h => absurd (of_decide_eq_true h) (by omega))
  refine And.intro (fun _ => ?_) (fun h => nomatch h)
  refine And.intro (fun _ => ?_) (fun h => absurd (of_decide_eq_true h) (by omega))
  refine And.intro (fun _ => ?_) (fun h => nomatch h)
  refine Exists.intro _ (And.intro hprime ?_)
  refine And.intro (fun _ => ?_) (fun h => nomatch h)
  refine And.intro (fun h => nomatch h) (fun _ => ?_)
  refine aw_loop (fun k : Int => stOf [(1, .int .i64 a), (2, .int .i64 b), (7, .int .i64 r), (9, .int .i64 k)] [] 0) (fun k => pickF n 1000000 ≤ k ∧ k ≤ r) (fun k => (r - k).toNat) (pickF n 1000000) ⟨Int.le_refl _, hge⟩ (le_of ?_ ?_ ?_) ?_
  · intro q hq
    simp only [List.mem_cons, List.not_mem_nil, or_false] at hq
    rcases hq with rfl | rfl | rfl | rfl <;> rfl
  · intro q hq; cases hq
  · exact Nat.le_refl _
  · rintro k ⟨hk0, hk1⟩ P hP
    refine And.intro (fun h1 => ?_) (fun h1 => ?_)
    · have h1' : k < r := of_decide_eq_true h1
      have hkp : Spec Tryd.prog glB4 13 [.int .i64 k] (.bool false) := by
        have := prime_spec k
        rw [hno k hk0 h1'] at this
        exact this
      have hw : w64 (k + 1) = k + 1 := by rw [w64, Go.IntWalk.i64_in _ (by omega)]
      refine Exists.intro _ (And.intro hkp ?_)
      refine And.intro (fun h => nomatch h) (fun _ => ?_)
      refine hP (k + 1) _ (le_of ?_ ?_ ?_) ⟨by omega, by omega⟩ (by omega)
      · intro q hq
        simp only [List.mem_cons, List.not_mem_nil, or_false] at hq
        rcases hq with rfl | rfl | rfl | rfl <;> first | rfl | (show AV.int .i64 (w64 (k + 1)) = _; rw [hw])
      · intro q hq; cases hq
      · exact Nat.le_refl _
    · clear hP
      refine aw_loop (fun d : Int => stOf [(1, .int .i64 a), (2, .int .i64 b), (7, .int .i64 r), (10, .int .i64 d)] [] 0) (fun d => 2 ≤ d ∧ d ≤ 1000004) (fun d => (1000004 - d).toNat) 2 ⟨by decide, by decide⟩ (le_of ?_ ?_ ?_) ?_
      · intro q hq
        simp only [List.mem_cons, List.not_mem_nil, or_false] at hq
        rcases hq with rfl | rfl | rfl | rfl <;> rfl
      · intro q hq; cases hq
      · exact Nat.le_refl _
      · rintro d ⟨hd0, hd1⟩ P hP
        have hdd : d * d ≤ 1000004 * 1000004 := Int.mul_le_mul hd1 hd1 (by omega) (by decide)
        have hdd0 : d ≤ d * d := by have := Int.mul_le_mul_of_nonneg_right (show (1 : Int) ≤ d by omega) (show (0 : Int) ≤ d by omega); omega
        have hwd : w64 (d * d) = d * d := by rw [w64, Go.IntWalk.i64_in _ (by omega)]
        have hw : w64 (d + 1) = d + 1 := by rw [w64, Go.IntWalk.i64_in _ (by omega)]
        refine And.intro (fun h2 => ?_) (fun h2 => ?_)
        · have h2' : d * d ≤ r := by
            have := of_decide_eq_true (show decide (w64 (d * d) ≤ r) = true from h2)
            rwa [hwd] at this
          refine And.intro (by omega) ?_
          refine And.intro (fun h3 => absurd (eq_of_beq (show (r.tmod d == 0) = true from h3)) (hdiv d hd0 h2')) (fun _ => ?_)
          refine hP (d + 1) _ (le_of ?_ ?_ ?_) ⟨by omega, by omega⟩ (by omega)
          · intro q hq
            simp only [List.mem_cons, List.not_mem_nil, or_false] at hq
            rcases hq with rfl | rfl | rfl | rfl <;> first | rfl | (show AV.int .i64 (w64 (d + 1)) = _; rw [hw])
          · intro q hq; cases hq
          · exact Nat.le_refl _
        · clear hP
          have hfalse : ∀ z : Int, primeF z = false → Spec Tryd.prog glB4 13 [.int .i64 z] (.bool false) := fun z hz => by
            have := prime_spec z
            rw [hz] at this
            exact this
          refine Exists.intro _ (And.intro (pick_spec glB4 a 46000 (by decide)) ?_)
          refine Exists.intro _ (And.intro (pick_spec glB4 b 46000 (by decide)) ?_)
          refine Exists.intro _ (And.intro (hfalse _ hxy) ?_)
          refine And.intro (fun _ => ?_) (fun h => nomatch h)
          refine And.intro (fun _ => ?_) (fun h => nomatch h)
          refine And.intro (fun _ => ?_) (fun h => nomatch h)
          refine Exists.intro _ (And.intro (hfalse _ hneg) ?_)
          refine And.intro (fun _ => ?_) (fun h => nomatch h)
          refine And.intro (fun _ => ?_) (fun h => nomatch h)
          refine Exists.intro _ (And.intro (hfalse _ htwo) ?_)
          refine And.intro (fun _ => ?_) (fun h => nomatch h)
          refine And.intro (Or.inr rfl) ?_
          exact rfl
end Ab
