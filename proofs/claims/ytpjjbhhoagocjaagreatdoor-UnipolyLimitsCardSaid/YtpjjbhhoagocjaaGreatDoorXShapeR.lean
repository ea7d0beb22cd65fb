import Derived.Test.YtpjjbhhoagocjaaGreatDoorXQv
import Derived.Test.YtpjjbhhoagocjaaGreatDoorXGu
open Go Go.WideShapes Go.RowKit Go.Proofs
namespace Ab
set_option maxRecDepth 100000
end Ab
