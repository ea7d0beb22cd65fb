import Derived.Test.YteghdokklckbhaaDoorXStep
import Derived.Test.YteghdokklckbhaaDoorXReduce
import Derived.Test.YteghdokklckbhaaDoorXGp
/-!
The reference's primes.
-/
open Go Go.Proofs
namespace Ab
set_option maxRecDepth 100000

theorem refPrime_spec (gl : List (Nat × AV)) (p : Int) : Spec Tryd.prog gl 56 [.int .i64 p] (.bool (primeF p)) := by
  refine spec_fn T_ok mixed_ok 0 Tryd.func56 fn_ok56 (by kernel_rfl) ?_
  refine gr (fun h1 => ?_) (fun h1 => ?_)
  · repeat (first | refine gT ?_ | refine gF ?_ | refine brT ?_ | refine brF ?_)
    refine And.intro (Or.inr rfl) ?_
    show AV.bool false = _
    unfold primeF; rw [if_pos h1]
  · repeat (first | refine gT ?_ | refine gF ?_ | refine brT ?_ | refine brF ?_)
    refine br (fun h2 => ?_) (fun h2 => ?_)
    · refine And.intro (Or.inr rfl) ?_
      show AV.bool false = _
      unfold primeF; rw [if_neg h1, if_pos h2]
    · refine aw_loop (fun d : Int => stOf [(0, .int .i64 p), (3, .int .i64 d)] [] 0) (fun d => 2 ≤ d ∧ d ≤ 46342 ∧ ∀ e, 2 ≤ e → e < d → p.tmod e ≠ 0) (fun d => (46343 - d).toNat) 2 ⟨by omega, by omega, fun e _ _ => by omega⟩
        (le_by ⟨rfl, rfl, trivial⟩ trivial (Nat.le_refl _)) ?_
      rintro d ⟨hd1, hd2, hd3⟩ P hP
      have hdd : d * d ≤ 46342 * 46342 := Int.mul_le_mul hd2 hd2 (by omega) (by decide)
      have hd0 : 2 * d ≤ d * d := Int.mul_le_mul_of_nonneg_right hd1 (by omega)
      have hw : w64 (d * d) = d * d := w64_eq (by omega)
      have hw1 : w64 (d + 1) = d + 1 := w64_eq (by omega)
      refine br (fun h3 => ?_) (fun h3 => ?_)
      · have h3' : d * d ≤ p := by rw [← hw]; exact h3
        refine And.intro (by omega) ?_
        refine brE (fun h4 => ?_) (fun h4 => ?_)
        · refine And.intro (Or.inr rfl) ?_
          show AV.bool false = AV.bool (primeF p)
          clear hP
          cases hc : primeF p with
          | false => rfl
          | true =>
            exfalso
            have hp := ((primeF_iff p).1 hc).2.2
            rw [Int.tmod_eq_emod_of_nonneg (by omega)] at h4
            have hdv := Int.dvd_of_emod_eq_zero h4
            have hdv2 : d.toNat ∣ p.toNat := by
              refine Int.natCast_dvd_natCast.1 ?_
              rw [show ((d.toNat : Nat) : Int) = d by omega, show ((p.toNat : Nat) : Int) = p by omega]
              exact hdv
            rcases hp.2 _ hdv2 with h | h <;> omega
        · refine hP (d + 1) _ (le_by ⟨rfl, int_eq hw1, trivial⟩ trivial (Nat.le_refl _)) ⟨by omega, ?_, fun e he1 he2 => ?_⟩ (by omega)
          · by_cases hc : d + 1 ≤ 46342
            · exact hc
            · exfalso
              have : 46342 * 46342 ≤ d * d := Int.mul_le_mul (by omega) (by omega) (by omega) (by omega)
              omega
          · by_cases hc : e = d
            · subst hc; exact h4
            · exact hd3 e he1 (by omega)
      · have h3' : ¬ d * d ≤ p := by rw [← hw]; exact h3
        refine And.intro (Or.inr rfl) ?_
        show AV.bool true = AV.bool (primeF p)
        rw [(primeF_iff p).2 ⟨by omega, by omega, prm_trial (by omega) fun e he1 he2 hm => ?_⟩]
        refine hd3 e (by omega) ?_ ?_
        · by_cases hc : (e : Int) < d
          · exact hc
          · exfalso
            have h5 : d * d ≤ (e : Int) * e := Int.mul_le_mul (by omega) (by omega) (by omega) (by omega)
            have h6 : ((e * e : Nat) : Int) ≤ p.toNat := by omega
            rw [Int.natCast_mul] at h6
            omega
        · rw [Int.tmod_eq_emod_of_nonneg (by omega)]
          have : ((p.toNat % e : Nat) : Int) = 0 := by rw [hm]; rfl
          rw [Int.natCast_emod] at this
          rw [← this]; congr 1; omega
end Ab
