import Derived.Test.YtpjjbhhoagocjaaGreatDoorXGz
open Go Go.Proofs
namespace Ab
set_option maxRecDepth 100000
set_option maxHeartbeats 1000000
theorem want1 (gl : List (Nat × AV)) {p : List Rat} (hp : Poly p) : Spec Tryz.prog gl 51 [.sl [[polyV p]]] (.tup []) :=
 want_spec gl (l:=[p]) (by intro r hr; simp only [List.mem_cons,List.not_mem_nil,or_false] at hr; rcases hr with rfl; exact hp) (by simp)
end Ab
