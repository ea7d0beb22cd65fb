import Derived.Test.YtinhfpljdjlomaaGreatXFT
/-!
The box of a fraction: plain.
-/
open Go Go.Proofs
namespace Ab

end Ab
