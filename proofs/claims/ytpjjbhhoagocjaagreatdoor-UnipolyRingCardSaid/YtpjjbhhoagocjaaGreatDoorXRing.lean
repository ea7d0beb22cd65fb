import Derived.Test.YtpjjbhhoagocjaaGreatDoorXGz
import Derived.Test.YtpjjbhhoagocjaaGreatDoorXSane03
open Go Go.Proofs
namespace Ab
set_option maxRecDepth 100000
set_option maxHeartbeats 1000000
theorem ring_walk {l m n : List Int} {A B C AB BA S X AC Y BC Z W D : List Rat}
  (sa : Spec Tryz.prog [] 14 [] (.bool true))
  (pa : Spec Tryz.prog [] 15 [.sl (irows .i64 l),.int .i64 6] (polyV A))
  (pb : Spec Tryz.prog [] 15 [.sl (irows .i64 m),.int .i64 6] (polyV B))
  (pc : Spec Tryz.prog [] 15 [.sl (irows .i64 n),.int .i64 6] (polyV C))
  (ab : Spec Tryz.prog [] 16 [polyV A,polyV B] (.tup [polyV AB,.int .i64 0]))
  (ba : Spec Tryz.prog [] 16 [polyV B,polyV A] (.tup [polyV BA,.int .i64 0]))
  (sm : Spec Tryz.prog [] 33 [polyV B,polyV C] (.tup [polyV S,.int .i64 0]))
  (s1 : Spec Tryz.prog [] 20 [polyV AB,polyV BA] (.bool true))
  (x : Spec Tryz.prog [] 16 [polyV A,polyV S] (.tup [polyV X,.int .i64 0]))
  (ac : Spec Tryz.prog [] 16 [polyV A,polyV C] (.tup [polyV AC,.int .i64 0]))
  (y : Spec Tryz.prog [] 33 [polyV AB,polyV AC] (.tup [polyV Y,.int .i64 0]))
  (s2 : Spec Tryz.prog [] 20 [polyV X,polyV Y] (.bool true))
  (bc : Spec Tryz.prog [] 16 [polyV B,polyV C] (.tup [polyV BC,.int .i64 0]))
  (z : Spec Tryz.prog [] 16 [polyV A,polyV BC] (.tup [polyV Z,.int .i64 0]))
  (w : Spec Tryz.prog [] 16 [polyV AB,polyV C] (.tup [polyV W,.int .i64 0]))
  (d : Spec Tryz.prog [] 40 [polyV S,polyV C] (.tup [polyV D,.int .i64 0]))
  (s3 : Spec Tryz.prog [] 20 [polyV Z,polyV W] (.bool true))
  (s4 : Spec Tryz.prog [] 20 [polyV D,polyV B] (.bool true)) :
  Spec Tryz.prog [] 9 [.sl (irows .i64 l),.sl (irows .i64 m),.sl (irows .i64 n)] (.bool true):=by
 refine spec_fn T_ok mixed_ok 0 Tryz.func9 fn_ok9 (by kernel_rfl) ?_
 first | refine Exists.intro _ (And.intro (sa) ?_) | refine Hn_by (Exists.intro _ (And.intro (sa) ?_))
 repeat (first | refine gT ?_ | refine gF ?_ | refine brT ?_ | refine brF ?_)
 first | refine Exists.intro _ (And.intro (pa) ?_) | refine Hn_by (Exists.intro _ (And.intro (pa) ?_))
 first | refine Exists.intro _ (And.intro (pb) ?_) | refine Hn_by (Exists.intro _ (And.intro (pb) ?_))
 first | refine Exists.intro _ (And.intro (pc) ?_) | refine Hn_by (Exists.intro _ (And.intro (pc) ?_))
 first | refine Exists.intro _ (And.intro (ab) ?_) | refine Hn_by (Exists.intro _ (And.intro (ab) ?_))
 first | refine Exists.intro _ (And.intro (ba) ?_) | refine Hn_by (Exists.intro _ (And.intro (ba) ?_))
 first | refine Exists.intro _ (And.intro (sm) ?_) | refine Hn_by (Exists.intro _ (And.intro (sm) ?_))
 repeat (first | refine gT ?_ | refine gF ?_ | refine brT ?_ | refine brF ?_)
 first | refine Exists.intro _ (And.intro (s1) ?_) | refine Hn_by (Exists.intro _ (And.intro (s1) ?_))
 repeat (first | refine gT ?_ | refine gF ?_ | refine brT ?_ | refine brF ?_)
 first | refine Exists.intro _ (And.intro (x) ?_) | refine Hn_by (Exists.intro _ (And.intro (x) ?_))
 first | refine Exists.intro _ (And.intro (ac) ?_) | refine Hn_by (Exists.intro _ (And.intro (ac) ?_))
 first | refine Exists.intro _ (And.intro (y) ?_) | refine Hn_by (Exists.intro _ (And.intro (y) ?_))
 repeat (first | refine gT ?_ | refine gF ?_ | refine brT ?_ | refine brF ?_)
 first | refine Exists.intro _ (And.intro (s2) ?_) | refine Hn_by (Exists.intro _ (And.intro (s2) ?_))
 repeat (first | refine gT ?_ | refine gF ?_ | refine brT ?_ | refine brF ?_)
 first | refine Exists.intro _ (And.intro (bc) ?_) | refine Hn_by (Exists.intro _ (And.intro (bc) ?_))
 first | refine Exists.intro _ (And.intro (z) ?_) | refine Hn_by (Exists.intro _ (And.intro (z) ?_))
 first | refine Exists.intro _ (And.intro (w) ?_) | refine Hn_by (Exists.intro _ (And.intro (w) ?_))
 first | refine Exists.intro _ (And.intro (d) ?_) | refine Hn_by (Exists.intro _ (And.intro (d) ?_))
 repeat (first | refine gT ?_ | refine gF ?_ | refine brT ?_ | refine brF ?_)
 first | refine Exists.intro _ (And.intro (s3) ?_) | refine Hn_by (Exists.intro _ (And.intro (s3) ?_))
 repeat (first | refine gT ?_ | refine gF ?_ | refine brT ?_ | refine brF ?_)
 first | refine Exists.intro _ (And.intro (s4) ?_) | refine Hn_by (Exists.intro _ (And.intro (s4) ?_))
 repeat (first | refine gT ?_ | refine gF ?_ | refine brT ?_ | refine brF ?_)
 exact And.intro (Or.inr rfl) rfl
theorem ring_law (l : List Int) (hl : l.length <= maxLen) (il : ∀ x ∈ l,I64 x) (m : List Int) (hm : m.length <= maxLen) (im : ∀ x ∈ m,I64 x) (n : List Int) (hn : n.length <= maxLen) (i_n : ∀ x ∈ n,I64 x) :
  Spec Tryz.prog [] 9 [.sl (irows .i64 l),.sl (irows .i64 m),.sl (irows .i64 n)] (.bool true):=by
 have a:=pb_poly l 6
 have b:=pb_poly m 6
 have c:=pb_poly n 6
 have ab:=a.mul b (by decide)
 have ba:=b.mul a (by decide)
 have s:=b.add c
 have x:=a.mul s (by decide)
 have ac:=a.mul c (by decide)
 have y:=ab.add ac
 have bc:=b.mul c (by decide)
 have z:=a.mul bc (by decide)
 have w:=ab.mul c (by decide)
 have d:=s.sub c
 refine ring_walk sane_spec (lawPoly_pb [] il hl (by decide)) (lawPoly_pb [] im hm (by decide)) (lawPoly_pb [] i_n hn (by decide))
  (Mul_pb [] a b (by decide) (by decide) (by decide) (by decide +kernel) (by decide +kernel)) (Mul_pb [] b a (by decide) (by decide) (by decide) (by decide +kernel) (by decide +kernel))
  (Add_pb [] b c (by decide) (by decide) (by decide +kernel))
  (Same_eq [] ab (by decide +kernel) (by decide) ?_)
  (Mul_pb [] a s (by decide) (by decide) (by decide) (by decide +kernel) (by decide +kernel)) (Mul_pb [] a c (by decide) (by decide) (by decide) (by decide +kernel) (by decide +kernel))
  (Add_pb [] ab ac (by decide) (by decide) (by decide +kernel))
  (Same_eq [] x (by decide +kernel) (by decide) ?_)
  (Mul_pb [] b c (by decide) (by decide) (by decide) (by decide +kernel) (by decide +kernel))
  (Mul_pb [] a bc (by decide) (by decide) (by decide) (by decide +kernel) (by decide +kernel))
  (Mul_pb [] ab c (by decide) (by decide) (by decide) (by decide +kernel) (by decide +kernel))
  (Sub_pb [] s c (by decide) (by decide) (by decide +kernel))
  (Same_eq [] z (by decide +kernel) (by decide) ?_)
  (Same_eq [] d (by decide +kernel) (by decide) ?_)
 ·exact lst_ext ab.t ba.t fun i => by rw [cf_mulP,cf_mulP,cnv_comm]
 ·refine lst_ext x.t y.t fun i => ?_
  rw [cf_mulP,cf_addP,cf_mulP,cf_mulP,<- cnv_add]
  exact cnv_congr (fun _ => rfl) fun j => cf_addP _ _ j
 ·refine lst_ext z.t w.t fun i => ?_
  rw [cf_mulP,cf_mulP]
  rw [cnv_congr (fun _ => rfl) fun j => cf_mulP _ _ j,cnv_congr (g:=cf (polyQ n 6)) (fun j => cf_mulP _ _ j) fun _ => rfl]
  exact cnv_assoc _ _ _ i
 ·refine lst_ext d.t b.t fun i => ?_
  rw [cf_subP,cf_addP]
  grind
end Ab
