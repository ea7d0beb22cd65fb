import Derived.Test.YtpjjbhhoagocjaaGreatDoorXGh
import Derived.Test.YtpjjbhhoagocjaaGreatDoorXGz
open Go Go.Proofs
namespace Ab
set_option maxRecDepth 100000
set_option maxHeartbeats 1000000
def pfail (e : Int) : Value:=.iface 111 (.agg ⟨[.int .i64 e]⟩)
theorem mul_big (gl : List (Nat × AV)) {p q : List Rat} (hp : 0 < p.length) (hq : 0 < q.length) (lp : p.length <= 65) (lq : q.length <= 65) (h : 66 < p.length + q.length) : SpecP Tryz.prog gl 52 [polyV p,polyV q] (pfail 2):=by
 have ep:=poly_len p
 have eq:=poly_len q
 have w1 : w64 (((p.map rv).length : Int) + ((q.map rv).length : Int)) = ((p.map rv).length : Int) + ((q.map rv).length : Int):=w64_eq (by omega)
 have w2 : w64 (((p.map rv).length : Int) + ((q.map rv).length : Int) - 2) = ((p.map rv).length : Int) + ((q.map rv).length : Int) - 2:=w64_eq (by omega)
 refine specP_fn T_ok mixed_ok 0 Tryz.func52 fn_ok52 (by kernel_rfl) ?_
 refine Or.inr ?_
 refine Or.inr ?_
 refine grE (fun g => absurd (show ((p.map rv).length : Int) = 0 from g) (by omega)) (fun _ => ?_)
 repeat (first | refine gT ?_ | refine gF ?_ | refine brT ?_ | refine brF ?_)
 refine brE (fun g => absurd (show ((q.map rv).length : Int) = 0 from g) (by omega)) (fun _ => ?_)
 refine Or.inl (Or.inr ?_)
 refine br (fun _ => ?_) (fun g => absurd (show w64 (w64 (((p.map rv).length : Int) + ((q.map rv).length : Int)) - 2) > 64 by rw [w1,w2]; omega) g)
 refine And.intro rfl (Exists.intro 1 (And.intro rfl ?_))
 exact Or.inr ⟨_,_,_,_,_,_,_,rfl,rfl,rfl,rfl,rfl,rfl,rfl,rfl,by kernel_rfl,rfl,trivial⟩
theorem Mul_big (gl : List (Nat × AV)) {p q : List Rat} (hp : Poly p) (hq : Poly q) (h : 66 < p.length + q.length) : Spec Tryz.prog gl 16 [polyV p,polyV q] (.tup [polyV [],.int .i64 2]):=by
 have lp:=hp.2.1
 have lq:=hq.2.1
 have w:=want2 gl hp hq
 have m:=mul_big gl (p:=p) (q:=q) (by omega) (by omega) lp lq h
 refine specR_fn T_ok mixed_ok 1 111 (.agg ⟨[.int .i64 2]⟩) Tryz.func16 fn_ok16 (by kernel_rfl) ?_
 refine And.intro (by kernel_rfl) ?_
 refine And.intro rfl ?_
 refine Or.inr ?_
 refine Hn_by (And.intro (Nat.le_refl 2) ?_)
 first | refine Exists.intro _ (And.intro (w) ?_) | refine Hn_by (Exists.intro _ (And.intro (w) ?_))
 refine Or.inl ?_
 refine And.intro rfl (Exists.intro 2 (And.intro rfl ?_))
 refine Or.inl ⟨_,_,_,_,_,_,rfl,rfl,rfl,rfl,rfl,m,?_⟩
 refine rec_fn Tryz.func49 (by kernel_rfl) ?_
 refine Hn_in Tryz.f50 Tryz.func50 fn_ok50 (by kernel_rfl) ?_
 refine brT ?_
 refine And.intro (Or.inr rfl) ?_
 exact And.intro (Or.inl rfl) rfl
end Ab
