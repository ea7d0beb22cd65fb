import Derived.Test.YtinhfpljdjlomaaGreatXFT
open Go Go.Proofs
namespace Ab
abbrev bx (a b c d : Int) (w : Bool) : AV := .agg [.int .i64 a, .int .i64 b, .int .i64 c, .int .i64 d, .bool w]
structure Bx where
 a : Int
 b : Int
 c : Int
 d : Int
 w : Bool
abbrev Bx.av (x : Bx) : AV := bx x.a x.b x.c x.d x.w
def MF : Int := 1152921504606846976
def fl (N D : Int) : Int := N * 16777216 / D
def exB (N D : Int) : Bx := ⟨fl N D, -fl (-N) D, 0, 0, false⟩
def ExOk (N D : Int) : Prop := (-MF <= fl N D ∧ fl N D <= MF) ∧ (-MF <= fl (-N) D ∧ fl (-N) D <= MF)
end Ab
