import Derived.Test.YtinhfpljdjlomaaGreatXPath2
import Derived.Test.YtinhfpljdjlomaaGreatXSame
open Go Go.Proofs
namespace Ab
set_option maxRecDepth 100000
set_option maxHeartbeats 1000000
def Okp (p : Ps) : Prop:=∀ r ∈ p,Qok r
end Ab
