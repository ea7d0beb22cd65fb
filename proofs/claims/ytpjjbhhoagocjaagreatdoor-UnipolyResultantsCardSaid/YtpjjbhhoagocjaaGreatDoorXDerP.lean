import Derived.Test.YtpjjbhhoagocjaaGreatDoorXBdC
namespace Ab
theorem cnv_mulr (c : Rat) (f g : Nat -> Rat) (k : Nat) : cnv f (fun i => c * g i) k = c * cnv f g k:=by
 unfold cnv
 rw [<- psum_mul]
 exact psum_congr fun i _ => by grind
def one0 : Nat -> Rat:=fun k => if k = 0 then 1 else 0
theorem cnv_one (g : Nat -> Rat) (k : Nat) : cnv one0 g k = g k:=by
 cases k with
 | zero => rw [cnv_zero]; show 1 * g 0 = g 0; exact Rat.one_mul _
 | succ k =>
  rw [cnv_front]
  have : cnv (shf one0) g k = 0:=psum_zero fun i _ => by
   show (if i + 1 = 0 then (1 : Rat) else 0) * _ = 0
   rw [if_neg (by omega),Rat.zero_mul]
  rw [this]
  show 1 * g (k + 1) + 0 = g (k + 1)
  rw [Rat.one_mul,Rat.add_zero]
theorem psum_dist (c : Rat) (f : Nat -> Rat) (n : Nat) : psum n f * c = psum n fun i => f i * c:=by
 rw [Rat.mul_comm,<- psum_mul]
 exact psum_congr fun i _ => Rat.mul_comm _ _
end Ab
