import Derived.Test.YtinhfpljdjlomaaGreatXQv
open Go Go.Proofs
namespace Ab
set_option maxRecDepth 100000
set_option maxHeartbeats 1000000
theorem dvd_cop {d n f : Int} (h : d ∣ n * f) (g : Int.gcd d n = 1) : d ∣ f:=by
 have h1 : d.natAbs ∣ f.natAbs * n.natAbs:=by rw [<- Int.natAbs_mul,Int.mul_comm]; exact Int.natAbs_dvd_natAbs.2 h
 exact Int.natAbs_dvd_natAbs.1 (Nat.Coprime.dvd_of_dvd_mul_right g h1)
theorem cross_eq {n d m f : Int} (h1 : Qn n d) (h2 : Qn m f) (h : n * f = m * d) : n = m ∧ d = f:=by
 obtain ⟨_,_,d0,g1⟩:=h1
 obtain ⟨_,_,f0,g2⟩:=h2
 have a : d ∣ f:=by
  have : d ∣ n * f:=⟨m,by rw [h,Int.mul_comm]⟩
  exact dvd_cop this (by rw [Int.gcd_comm]; exact g1)
 have b : f ∣ d:=by
  have : f ∣ m * d:=⟨n,by rw [<- h,Int.mul_comm]⟩
  exact dvd_cop this (by rw [Int.gcd_comm]; exact g2)
 have e : d = f:=Int.dvd_antisymm (by omega) (by omega) a b
 subst e
 exact ⟨Int.eq_of_mul_eq_mul_right (by omega) h,rfl⟩
end Ab
