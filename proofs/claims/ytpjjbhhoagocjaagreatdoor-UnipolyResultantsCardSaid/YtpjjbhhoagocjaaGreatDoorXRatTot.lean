import Derived.Test.YtpjjbhhoagocjaaGreatDoorXRatSub
import Derived.Test.YtpjjbhhoagocjaaGreatDoorXQv
open Go Go.Proofs
namespace Ab
set_option maxRecDepth 100000
set_option maxHeartbeats 1000000
end Ab
