import Derived.Test.YtinhfpljdjlomaaGreatXAt5
import Derived.Test.YtinhfpljdjlomaaGreatXWorks
import Derived.Test.YtinhfpljdjlomaaGreatXShapePc
open Go Go.Proofs
namespace Ab
set_option maxRecDepth 100000
set_option maxHeartbeats 1000000
theorem boxes_refl (L : List Bx) (hl : (L.length : Int) <= 9223372036854775807) : Spec Tryz.prog [] 18 [.sl (brow L),.sl (brow L)] (.bool true):=by
 have ll : ((brow L).length : Int) = L.length:=by rw [brow_len]
 refine spec_fn T_ok mixed_ok 0 Tryz.func18 fn_ok18 (by kernel_rfl) ?_
 refine brN (fun g => absurd rfl g) (fun _ => ?_)
 refine aw_loop (fun i : Nat => stOf [(0,.sl (brow L)),(1,.sl (brow L)),(5,.int .i64 (i : Int))] [] 0) (fun i => i <= L.length) (fun i => L.length - i) 0 (Nat.zero_le _)
  (le_by ⟨rfl,rfl,rfl,trivial⟩ trivial (Nat.le_refl _)) ?_
 rintro i hi P hP
 refine br (fun g => ?_) (fun g => ?_)
 ·have g : i < L.length:=by have : (i : Int) < ((brow L).length : Int):=g; omega
  obtain ⟨B,hB⟩:=get_of g
  have hb : (brow L)[i]? = some B.cs:=by simp [brow,hB]
  refine And.intro (by kernel_rfl) ?_
  refine And.intro (Int.natCast_nonneg i) (Exists.intro _ (And.intro (at_nat hb) ?_))
  refine And.intro (Int.natCast_nonneg i) (Exists.intro _ (And.intro (at_nat hb) ?_))
  have e : (!(and (B.a == B.a) (and (B.b == B.b) (and (B.c == B.c) (and (B.d == B.d) (and (B.w == B.w) true)))))) = false:=by simp
  refine And.intro (fun h => Bool.noConfusion (e.symm.trans h)) (fun _ => ?_)
  refine hP (i + 1) _ ?_ g (by omega)
  refine le_by ⟨rfl,rfl,int_eq ?_,trivial⟩ trivial (Nat.le_refl _)
  exact w64_succ g hl
 ·exact And.intro (Or.inr rfl) rfl
theorem at_form {l m : Ps} {re im : Int} {r : AV} (h : AtAns l m re im r) : ∃ L e,r = .tup [.sl (brow L),.int .i64 e] ∧ L.length <= 20:=by
 rcases h with ⟨_,rfl⟩ | ⟨a,b,_,_,_,_,h5,h6,_,rfl⟩
 ·exact ⟨[],1,rfl,Nat.zero_le _⟩
 ·cases ha : atO a b re im with
  | none => exact ⟨[],2,rfl,Nat.zero_le _⟩
  | some L => exact ⟨L,0,rfl,by have:=atO_len h6.symm ha; omega⟩
abbrev pcv (l m : Ps) (a b c d : Int) : AV:=.agg [.sl l,.sl m,.int .i64 a,.int .i64 b,.int .i64 c,.int .i64 d]
end Ab
