import Derived.Test.YtpjjbhhoagocjaaGreatDoorXRatSub
import Derived.Test.YtpjjbhhoagocjaaGreatDoorXQv
open Go Go.Proofs
namespace Ab
set_option maxRecDepth 100000
set_option maxHeartbeats 1000000
theorem qn_reduce {n d : Int} (hn : Fits n) (hd : Fits d) (h : 0 < d) : Qn (n / Int.gcd n d) (d / Int.gcd n d):=by
 have g0:=gcd_pos (n:=n) h
 have dv:=Int.gcd_dvd_right n d
 refine ⟨quo_fits g0 hn,quo_fits g0 hd,Int.ediv_pos_of_pos_of_dvd h (by omega) dv,?_⟩
 exact Int.gcd_ediv_gcd_ediv_gcd (by omega)
end Ab
