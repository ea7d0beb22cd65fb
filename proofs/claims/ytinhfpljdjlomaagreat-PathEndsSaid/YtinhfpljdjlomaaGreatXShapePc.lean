import Derived.Test.YtinhfpljdjlomaaGreatXShapeP
open Go Go.WideShapes Go.RowKit Go.Proofs
namespace Ab
set_option maxRecDepth 100000
def In64 (n : Int) : Prop:=-9223372036854775808 <= n ∧ n <= 9223372036854775807
theorem in64_of {n : Int} (h : (Lit.int .i64 n).wf = true) : In64 n:=by
 obtain ⟨g1,g2⟩:=Bool.and_eq_true_iff.1 h
 exact ⟨of_decide_eq_true g1,of_decide_eq_true g2⟩
theorem shp_time {k : Nat} {avs : List AV} (h : Shp Tryz.prog (k + 2) 28 avs) : ∃ a b : Int,avs = [.int .i64 a,.int .i64 b] ∧ In64 a ∧ In64 b:=by
 obtain ⟨x0,y0,rfl,h0,x1,y1,rfl,h1,rfl⟩:=shp_struct Tryz.underlying28 h
 obtain ⟨a,rfl,wa⟩:=shp_int Tryz.underlying3 h0
 obtain ⟨b,rfl,wb⟩:=shp_int Tryz.underlying3 h1
 exact ⟨a,b,rfl,in64_of wa,in64_of wb⟩
theorem shp_piece {k : Nat} {avs : List AV} (h : Shp Tryz.prog (k + 6) 32 avs) : ∃ (l m : Ps) (a b c d : Int),avs = [.sl l,.sl m,.int .i64 a,.int .i64 b,.int .i64 c,.int .i64 d] ∧ QDs l ∧ QDs m ∧ (l.length : Int) <= 9223372036854775807 ∧ (m.length : Int) <= 9223372036854775807 ∧ (In64 a ∧ In64 b) ∧ In64 c ∧ In64 d:=by
 obtain ⟨x0,y0,rfl,h0,x1,y1,rfl,h1,x2,y2,rfl,h2,x3,y3,rfl,h3,rfl⟩:=shp_struct Tryz.underlying32 h
 obtain ⟨l,rfl,hl,hr⟩:=shp_slice Tryz.underlying30 h0
 obtain ⟨m,rfl,hl2,hr2⟩:=shp_slice Tryz.underlying30 h1
 obtain ⟨a,b,rfl,ia,ib⟩:=shp_time h2
 obtain ⟨c,d,rfl,ic,id⟩:=shp_time h3
 unfold maxLen at hl hl2
 exact ⟨l,m,a,b,c,d,rfl,fun r hr' => shp_Q (hr r hr'),fun r hr' => shp_Q (hr2 r hr'),by omega,by omega,⟨ia,ib⟩,ic,id⟩
end Ab
