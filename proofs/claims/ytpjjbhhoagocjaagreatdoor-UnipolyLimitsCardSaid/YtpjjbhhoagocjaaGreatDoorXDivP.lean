import Derived.Test.YtpjjbhhoagocjaaGreatDoorXBdC
namespace Ab
theorem cf_rng {f : Nat -> Rat} {n i : Nat} : cf ((List.range n).map f) i = if i < n then f i else 0:=by
 by_cases h : i < n
 ·simp [cf,List.getD,h]
 ·rw [if_neg h,cf_out (by simp; omega)]
end Ab
