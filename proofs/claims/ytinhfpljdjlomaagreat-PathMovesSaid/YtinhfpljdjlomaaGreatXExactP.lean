import Derived.Test.YtinhfpljdjlomaaGreatXFT
open Go Go.Proofs
namespace Ab
end Ab
