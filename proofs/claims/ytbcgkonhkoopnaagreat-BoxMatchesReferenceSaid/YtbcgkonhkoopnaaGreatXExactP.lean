import Derived.Test.YtbcgkonhkoopnaaGreatXMulQ
open Go Go.Proofs
namespace Ab
def fl (N D : Int) : Int := N * 16777216 / D
def exB (N D : Int) : Bx := ⟨fl N D, -fl (-N) D, 0, 0, false⟩
def ExOk (N D : Int) : Prop := (-MF <= fl N D ∧ fl N D <= MF) ∧ (-MF <= fl (-N) D ∧ fl (-N) D <= MF)
end Ab
