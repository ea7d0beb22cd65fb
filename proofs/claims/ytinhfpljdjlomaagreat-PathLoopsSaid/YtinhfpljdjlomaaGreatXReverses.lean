import Derived.Test.YtinhfpljdjlomaaGreatXGi
import Derived.Test.YtinhfpljdjlomaaGreatXWorks
import Derived.Test.YtinhfpljdjlomaaGreatXShapeP
open Go Go.Proofs
namespace Ab
set_option maxRecDepth 100000
set_option maxHeartbeats 1000000
theorem pathB_rev {c : List Ps} (h : pathB c = true) : pathB c.reverse = true:=by
 obtain ⟨n,h1,⟨h2,h3⟩,h4⟩:=pathB_iff.1 h
 exact pathB_iff.2 ⟨n,h1,⟨by simpa using h2,by simpa using h3⟩,fun p hp => h4 p (by simpa using hp)⟩
theorem joinB_iff {a b : List Ps} : joinB a b = true ↔ pathB a = true ∧ pathB b = true ∧ a.getD (a.length - 1) [] = b.getD 0 [] ∧ a.length + b.length <= 25:=by
 unfold joinB
 simp only [Bool.and_eq_true,decide_eq_true_eq,same_iff]
theorem okc_qd {c : List Ps} (h : pathB c = true) : QDc c:=(okc_of h).1.qd
end Ab
