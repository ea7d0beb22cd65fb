import Derived.Test.YtpjjbhhoagocjaaGreatDoorXGue
import Derived.Test.YtpjjbhhoagocjaaGreatDoorXGuc
open Go Go.Proofs
namespace Ab
set_option maxRecDepth 100000
set_option maxHeartbeats 1000000
theorem sb_pb {a d N n : Nat} {p : List Rat} (h : PB d N n p) (h1 : d <= 2 ^ a) (h2 : N <= 2 ^ a) : SB a p:=⟨d,N,h1,h2,h.b⟩
theorem gok_divs : ∀ lf,lf <= 4 -> ∀ lg,lg <= 4 -> gok 9 200 13 lf lg 6 6 = true:=by decide +kernel
end Ab
