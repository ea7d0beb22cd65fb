import Derived.Test.YtinhfpljdjlomaaGreatXShapeP
open Go Go.WideShapes Go.RowKit Go.Proofs
namespace Ab
set_option maxRecDepth 100000
end Ab
