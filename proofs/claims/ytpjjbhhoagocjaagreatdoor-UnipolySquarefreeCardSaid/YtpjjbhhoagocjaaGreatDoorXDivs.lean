import Derived.Test.YtpjjbhhoagocjaaGreatDoorXGue
import Derived.Test.YtpjjbhhoagocjaaGreatDoorXGuc
open Go Go.Proofs
namespace Ab
set_option maxRecDepth 100000
set_option maxHeartbeats 1000000
theorem sb_pb {a d N n : Nat} {p : List Rat} (h : PB d N n p) (h1 : d <= 2 ^ a) (h2 : N <= 2 ^ a) : SB a p:=⟨d,N,h1,h2,h.b⟩
end Ab
