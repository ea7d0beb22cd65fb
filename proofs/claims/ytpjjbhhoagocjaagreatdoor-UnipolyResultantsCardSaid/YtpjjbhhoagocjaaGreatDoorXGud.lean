import Derived.Test.YtpjjbhhoagocjaaGreatDoorXGz
section
open Go Go.Proofs
namespace Ab
set_option maxRecDepth 100000
set_option maxHeartbeats 1000000
def hor (p : List Rat) (x : Rat) : Nat -> Rat
 | 0 => 0
 | t + 1 => hor p x t * x + cf p (p.length - 1 - t)
end Ab
end
section
open Go Go.Proofs
namespace Ab
set_option maxRecDepth 100000
set_option maxHeartbeats 1000000
end Ab
end
section
open Go Go.Proofs
namespace Ab
set_option maxRecDepth 100000
set_option maxHeartbeats 1000000
end Ab
end
