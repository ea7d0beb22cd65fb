import Derived.Test.YtinhfpljdjlomaaGreatXAt5
import Derived.Test.YtinhfpljdjlomaaGreatXWorks
import Derived.Test.YtinhfpljdjlomaaGreatXShapePc
open Go Go.Proofs
namespace Ab
set_option maxRecDepth 100000
set_option maxHeartbeats 1000000
theorem at_form {l m : Ps} {re im : Int} {r : AV} (h : AtAns l m re im r) : ∃ L e,r = .tup [.sl (brow L),.int .i64 e] ∧ L.length <= 20:=by
 rcases h with ⟨_,rfl⟩ | ⟨a,b,_,_,_,_,h5,h6,_,rfl⟩
 ·exact ⟨[],1,rfl,Nat.zero_le _⟩
 ·cases ha : atO a b re im with
  | none => exact ⟨[],2,rfl,Nat.zero_le _⟩
  | some L => exact ⟨L,0,rfl,by have:=atO_len h6.symm ha; omega⟩
abbrev pcv (l m : Ps) (a b c d : Int) : AV:=.agg [.sl l,.sl m,.int .i64 a,.int .i64 b,.int .i64 c,.int .i64 d]
end Ab
