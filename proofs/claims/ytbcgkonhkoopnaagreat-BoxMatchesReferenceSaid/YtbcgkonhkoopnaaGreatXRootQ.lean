import Derived.Test.YtbcgkonhkoopnaaGreatXRootP
open Go Go.Proofs
namespace Ab
set_option maxRecDepth 100000
def conjF (a : Bx) : Bx := ⟨a.a, a.b, -a.d, -a.c, false⟩
def rotF (w : Bx) : Bx := ⟨-w.d, -w.c, w.a, w.b, false⟩
def rightF (a : Bx) : Bx :=
 ⟨(reF a.a (mx (mx a.c (-a.d)) 0)).lo, (reF a.b (mx a.d (-a.c))).hi, if a.c <= 0 then -(imF a.a a.c).hi else (imF a.b a.c).lo, if a.d ≥ 0 then (imF a.a a.d).hi else -(imF a.b a.d).lo, false⟩
def upperF (a : Bx) : Bx := ⟨(reF a.a a.c).lo, (reF a.b a.d).hi, (imF a.b a.c).lo, (imF a.a a.d).hi, false⟩
end Ab
