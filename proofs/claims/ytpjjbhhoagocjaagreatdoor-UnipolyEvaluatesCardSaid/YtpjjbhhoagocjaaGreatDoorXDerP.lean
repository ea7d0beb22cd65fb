import Derived.Test.YtpjjbhhoagocjaaGreatDoorXBdC
namespace Ab
theorem psum_dist (c : Rat) (f : Nat -> Rat) (n : Nat) : psum n f * c = psum n fun i => f i * c:=by
 rw [Rat.mul_comm,<- psum_mul]
 exact psum_congr fun i _ => Rat.mul_comm _ _
end Ab
