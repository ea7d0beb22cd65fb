import Derived.Test.YtinhfpljdjlomaaGreatXFT
open Go Go.Proofs
namespace Ab
abbrev bx (a b c d : Int) (w : Bool) : AV:=.agg [.int .i64 a,.int .i64 b,.int .i64 c,.int .i64 d,.bool w]
structure Bx where
 a : Int
 b : Int
 c : Int
 d : Int
 w : Bool
abbrev Bx.av (x : Bx) : AV:=bx x.a x.b x.c x.d x.w
def MF : Int:=1152921504606846976
def fl (N D : Int) : Int:=N * 16777216 / D
theorem fl_le {N D : Int} (h : 0 < D) : fl N D * D <= N * 16777216:=Int.ediv_mul_le _ (by omega)
theorem lt_fl {N D : Int} (h : 0 < D) : N * 16777216 < (fl N D + 1) * D:=Int.lt_ediv_add_one_mul_self _ h
theorem le_fl {N D k : Int} (h : 0 < D) : k <= fl N D ↔ k * D <= N * 16777216:=Int.le_ediv_iff_mul_le h
theorem fl_width {N D : Int} (hD : 0 < D) : fl N D <= -fl (-N) D ∧ -fl (-N) D <= fl N D + 1:=by
 have a:=fl_le (N:=N) hD
 have b:=fl_le (N:=-N) hD
 have c:=lt_fl (N:=N) hD
 have d:=lt_fl (N:=-N) hD
 generalize fl N D = x at *
 generalize fl (-N) D = y at *
 have e1 : (x + y) * D <= 0 * D:=by rw [Int.add_mul]; omega
 have e2 : 0 * D < (x + y + 2) * D:=by
  have : (x + y + 2) * D = (x + 1) * D + (y + 1) * D:=by grind
  omega
 have f1:=Int.le_of_mul_le_mul_right e1 hD
 have f2:=Int.lt_of_mul_lt_mul_right e2 (Int.le_of_lt hD)
 omega
def exB (N D : Int) : Bx:=⟨fl N D,-fl (-N) D,0,0,false⟩
def ExOk (N D : Int) : Prop:=(-MF <= fl N D ∧ fl N D <= MF) ∧ (-MF <= fl (-N) D ∧ fl (-N) D <= MF)
end Ab
