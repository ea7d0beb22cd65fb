import Derived.Test.YtinhfpljdjlomaaGreatXGi
import Derived.Test.YtinhfpljdjlomaaGreatXShapeR
open Go Go.WideShapes Go.RowKit Go.Proofs
namespace Ab
set_option maxRecDepth 100000
end Ab
