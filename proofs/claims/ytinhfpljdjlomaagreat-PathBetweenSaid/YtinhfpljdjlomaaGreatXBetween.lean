import Derived.Test.YtinhfpljdjlomaaGreatXLawQ
import Derived.Test.YtinhfpljdjlomaaGreatXBetweenP
open Go Go.Proofs
namespace Ab
set_option maxRecDepth 100000
set_option maxHeartbeats 1000000
theorem half_bd {z : Int} (h0 : -2097152 <= z) (h1 : z <= 2097152) : -1048576 <= Int.tdiv z 2 ∧ Int.tdiv z 2 <= 1048576:=by
 by_cases h : 0 <= z
 ·rw [Int.tdiv_eq_ediv_of_nonneg h]; omega
 ·have e : Int.tdiv z 2 = -Int.tdiv (-z) 2:=by rw [Int.neg_tdiv]; omega
  rw [e,Int.tdiv_eq_ediv_of_nonneg (by omega)]; omega
theorem between_law {l m : Ps} {a b c d : Int} (hl : QDs l) (hm : QDs m) (lm : (m.length : Int) <= 9223372036854775807) : Spec Tryz.prog [] 10 [pcv l m a b c d] (.bool true):=by
 have t1:=time_spec a b
 have t2:=time_spec c d
 cases e1 : timeB a b with
 | false =>
  rw [e1] at t1
  refine spec_fn T_ok mixed_ok 0 Tryz.func10 fn_ok10 (by kernel_rfl) ?_
  first | refine Exists.intro _ (And.intro (t1) ?_) | refine Hn_by (Exists.intro _ (And.intro (t1) ?_))
  repeat (first | refine gT ?_ | refine gF ?_ | refine brT ?_ | refine brF ?_)
  first | refine Exists.intro _ (And.intro (works_spec) ?_) | refine Hn_by (Exists.intro _ (And.intro (works_spec) ?_))
  exact And.intro (Or.inr rfl) rfl
 | true =>
 cases e2 : timeB c d with
 | false =>
  rw [e1] at t1
  rw [e2] at t2
  refine spec_fn T_ok mixed_ok 0 Tryz.func10 fn_ok10 (by kernel_rfl) ?_
  first | refine Exists.intro _ (And.intro (t1) ?_) | refine Hn_by (Exists.intro _ (And.intro (t1) ?_))
  repeat (first | refine gT ?_ | refine gF ?_ | refine brT ?_ | refine brF ?_)
  first | refine Exists.intro _ (And.intro (t2) ?_) | refine Hn_by (Exists.intro _ (And.intro (t2) ?_))
  repeat (first | refine gT ?_ | refine gF ?_ | refine brT ?_ | refine brF ?_)
  first | refine Exists.intro _ (And.intro (works_spec) ?_) | refine Hn_by (Exists.intro _ (And.intro (works_spec) ?_))
  exact And.intro (Or.inr rfl) rfl
 | true =>
 obtain ⟨⟨a1,a2⟩,b1,b2⟩:=timeB_iff.1 e1
 obtain ⟨⟨c1,c2⟩,d1,d2⟩:=timeB_iff.1 e2
 have wr : w64 (a + c) = a + c:=w64_eq (by omega)
 have wi : w64 (b + d) = b + d:=w64_eq (by omega)
 generalize hmr : w64 (Int.tdiv (w64 (a + c)) 2) = mr
 generalize hmi : w64 (Int.tdiv (w64 (b + d)) 2) = mi
 rw [e1] at t1
 rw [e2] at t2
 by_cases g1 : w64 (2 * mr) ≠ w64 (a + c)
 ·refine spec_fn T_ok mixed_ok 0 Tryz.func10 fn_ok10 (by kernel_rfl) ?_
  first | refine Exists.intro _ (And.intro (t1) ?_) | refine Hn_by (Exists.intro _ (And.intro (t1) ?_))
  repeat (first | refine gT ?_ | refine gF ?_ | refine brT ?_ | refine brF ?_)
  first | refine Exists.intro _ (And.intro (t2) ?_) | refine Hn_by (Exists.intro _ (And.intro (t2) ?_))
  repeat (first | refine gT ?_ | refine gF ?_ | refine brT ?_ | refine brF ?_)
  refine And.intro (by decide) ?_
  refine And.intro (by decide) ?_
  refine grN (fun _ => ?_) (fun g => absurd g (by rw [<- hmr] at g1; exact g1))
  repeat (first | refine gT ?_ | refine gF ?_ | refine brT ?_ | refine brF ?_)
  first | refine Exists.intro _ (And.intro (works_spec) ?_) | refine Hn_by (Exists.intro _ (And.intro (works_spec) ?_))
  exact And.intro (Or.inr rfl) rfl
 have g1' : w64 (2 * mr) = w64 (a + c):=Classical.not_not.1 g1
 by_cases g2 : w64 (2 * mi) ≠ w64 (b + d)
 ·refine spec_fn T_ok mixed_ok 0 Tryz.func10 fn_ok10 (by kernel_rfl) ?_
  first | refine Exists.intro _ (And.intro (t1) ?_) | refine Hn_by (Exists.intro _ (And.intro (t1) ?_))
  repeat (first | refine gT ?_ | refine gF ?_ | refine brT ?_ | refine brF ?_)
  first | refine Exists.intro _ (And.intro (t2) ?_) | refine Hn_by (Exists.intro _ (And.intro (t2) ?_))
  repeat (first | refine gT ?_ | refine gF ?_ | refine brT ?_ | refine brF ?_)
  refine And.intro (by decide) ?_
  refine And.intro (by decide) ?_
  refine grN (fun g => absurd (show w64 (2 * mr) = w64 (a + c) from g1') (by rw [<- hmr]; exact g)) (fun _ => ?_)
  repeat (first | refine gT ?_ | refine gF ?_ | refine brT ?_ | refine brF ?_)
  refine brN (fun _ => ?_) (fun g => absurd g (by rw [<- hmi] at g2; exact g2))
  first | refine Exists.intro _ (And.intro (works_spec) ?_) | refine Hn_by (Exists.intro _ (And.intro (works_spec) ?_))
  exact And.intro (Or.inr rfl) rfl
 have g2' : w64 (2 * mi) = w64 (b + d):=Classical.not_not.1 g2
 have rb : -1048576 <= mr ∧ mr <= 1048576:=by
  have q:=half_bd (z:=a + c) (by omega) (by omega)
  rw [<- hmr,wr,w64_eq (by omega)]
  exact q
 have ib : -1048576 <= mi ∧ mi <= 1048576:=by
  have q:=half_bd (z:=b + d) (by omega) (by omega)
  rw [<- hmi,wi,w64_eq (by omega)]
  exact q
 have er : 2 * mr = a + c:=by rw [w64_eq (by omega),wr] at g1'; exact g1'
 have ei : 2 * mi = b + d:=by rw [w64_eq (by omega),wi] at g2'; exact g2'
 obtain ⟨r,q1,x1,y1⟩:=at_any hl hm lm (re:=a) (im:=b)
 obtain ⟨s,q2,x2,y2⟩:=at_any hl hm lm (re:=c) (im:=d)
 obtain ⟨u,q3,x3,y3⟩:=at_any hl hm lm (re:=mr) (im:=mi)
 obtain ⟨q,h,xa,ya⟩:=along_any hl hm lm q1 q2 x1 y1 x2 y2
 have hg1 : ¬ w64 (2 * w64 (Int.tdiv (w64 (a + c)) 2)) ≠ w64 (a + c):=by rw [hmr]; exact g1
 have hg2 : ¬ w64 (2 * w64 (Int.tdiv (w64 (b + d)) 2)) ≠ w64 (b + d):=by rw [hmi]; exact g2
 obtain ⟨C,f,rfl,hC⟩:=at_form q3
 rw [<- hmr,<- hmi] at x3
 have bad : ∀ (H : List Bx) (e : Int),(e ≠ 0 ∨ f ≠ 0) -> Spec Tryz.prog [] 35 [.sl l,.sl m,tmv a b,tmv c d] (.tup [.sl (brow H),.int .i64 e]) -> Spec Tryz.prog [] 10 [pcv l m a b c d] (.bool true):=by
  intro H e he xa
  refine spec_fn T_ok mixed_ok 0 Tryz.func10 fn_ok10 (by kernel_rfl) ?_
  first | refine Exists.intro _ (And.intro (t1) ?_) | refine Hn_by (Exists.intro _ (And.intro (t1) ?_))
  repeat (first | refine gT ?_ | refine gF ?_ | refine brT ?_ | refine brF ?_)
  first | refine Exists.intro _ (And.intro (t2) ?_) | refine Hn_by (Exists.intro _ (And.intro (t2) ?_))
  repeat (first | refine gT ?_ | refine gF ?_ | refine brT ?_ | refine brF ?_)
  refine And.intro (by decide) ?_
  refine And.intro (by decide) ?_
  refine grN (fun g => absurd g hg1) (fun _ => ?_)
  repeat (first | refine gT ?_ | refine gF ?_ | refine brT ?_ | refine brF ?_)
  refine brN (fun g => absurd g hg2) (fun _ => ?_)
  first | refine Exists.intro _ (And.intro (xa) ?_) | refine Hn_by (Exists.intro _ (And.intro (xa) ?_))
  first | refine Exists.intro _ (And.intro (x3) ?_) | refine Hn_by (Exists.intro _ (And.intro (x3) ?_))
  refine grN (fun _ => ?_) (fun g0 => ?_)
  ·repeat (first | refine gT ?_ | refine gF ?_ | refine brT ?_ | refine brF ?_)
   first | refine Exists.intro _ (And.intro (works_spec) ?_) | refine Hn_by (Exists.intro _ (And.intro (works_spec) ?_))
   exact And.intro (Or.inr rfl) rfl
  ·repeat (first | refine gT ?_ | refine gF ?_ | refine brT ?_ | refine brF ?_)
   refine brN (fun _ => ?_) (fun g => ?_)
   ·first | refine Exists.intro _ (And.intro (works_spec) ?_) | refine Hn_by (Exists.intro _ (And.intro (works_spec) ?_))
    exact And.intro (Or.inr rfl) rfl
   ·rcases he with he | he
    ·exact absurd g0 he
    ·exact absurd g he
 cases h with
 | one h0 => exact bad [] _ (.inl h0) xa
 | two h0 => exact bad [] _ (.inl h0) xa
 | @all L M k1 k2 gL gM =>
  by_cases hf : f = 0
  rotate_left
  ·exact bad _ 0 (.inr hf) xa
  subst hf
  obtain ⟨p,o,rfl,rfl,hp,ho,⟨lo,lp⟩,_,aL⟩:=at_some q1
  obtain ⟨p',o',e3,e4,_,_,_,_,aM⟩:=at_some q2
  have:=qrow_eq e3
  have:=qrow_eq e4
  subst_vars
  obtain ⟨p',o',e3,e4,_,_,_,_,aC⟩:=at_some q3
  have:=qrow_eq e3
  have:=qrow_eq e4
  subst_vars
  have zL:=atO_len lo.symm aL
  have zM:=atO_len lo.symm aM
  have zC:=atO_len lo.symm aC
  have hz : (List.zipWith hullF L M).length = L.length:=by rw [List.length_zipWith]; omega
  have lh : ((brow (List.zipWith hullF L M)).length : Int) = L.length:=by rw [brow_len,hz]
  have lc : ((brow C).length : Int) = L.length:=by rw [brow_len]; omega
  refine spec_fn T_ok mixed_ok 0 Tryz.func10 fn_ok10 (by kernel_rfl) ?_
  first | refine Exists.intro _ (And.intro (t1) ?_) | refine Hn_by (Exists.intro _ (And.intro (t1) ?_))
  repeat (first | refine gT ?_ | refine gF ?_ | refine brT ?_ | refine brF ?_)
  first | refine Exists.intro _ (And.intro (t2) ?_) | refine Hn_by (Exists.intro _ (And.intro (t2) ?_))
  repeat (first | refine gT ?_ | refine gF ?_ | refine brT ?_ | refine brF ?_)
  refine And.intro (by decide) ?_
  refine And.intro (by decide) ?_
  refine grN (fun g => absurd g hg1) (fun _ => ?_)
  repeat (first | refine gT ?_ | refine gF ?_ | refine brT ?_ | refine brF ?_)
  refine brN (fun g => absurd g hg2) (fun _ => ?_)
  first | refine Exists.intro _ (And.intro (xa) ?_) | refine Hn_by (Exists.intro _ (And.intro (xa) ?_))
  first | refine Exists.intro _ (And.intro (x3) ?_) | refine Hn_by (Exists.intro _ (And.intro (x3) ?_))
  repeat (first | refine gT ?_ | refine gF ?_ | refine brT ?_ | refine brF ?_)
  refine brN (fun g => absurd (lh.trans lc.symm) g) (fun _ => ?_)
  refine aw_loopN 2 (fun i : Nat => stOf [(4,.sl (brow (List.zipWith hullF L M))),(6,.sl (brow C)),(8,.int .i64 (i : Int))] [] 2) (fun i => i <= L.length) (fun i => L.length - i) 0 (Nat.zero_le _)
   (.inl (le_by ⟨rfl,rfl,rfl,trivial⟩ trivial (Nat.le_refl _))) (by kernel_rfl) ?_
  intro i hi P hP
  refine br (fun g => ?_) (fun g => ?_)
  ·have g : i < L.length:=by have : (i : Int) < ((brow (List.zipWith hullF L M)).length : Int):=g; omega
   obtain ⟨A,hA⟩:=get_of g
   obtain ⟨B,hB⟩:=get_of (l:=M) (i:=i) (by omega)
   obtain ⟨D,hD⟩:=get_of (l:=C) (i:=i) (by omega)
   obtain ⟨x,y,f1,f2,pA⟩:=atO_at aL i A hA
   obtain ⟨x',y',f3,f4,pB⟩:=atO_at aM i B hB
   obtain ⟨x2,y2,f5,f6,pD⟩:=atO_at aC i D hD
   rw [f1] at f3 f5
   rw [f2] at f4 f6
   cases f3; cases f4; cases f5; cases f6
   have vx:=hp x (List.mem_of_getElem? f1)
   have vy:=ho y (List.mem_of_getElem? f2)
   have bt:=between_pt vx vy (s1:=_) (s2:=_) (t1:=_) (t2:=_) (m1:=_) (m2:=_) ⟨a1,a2⟩ ⟨b1,b2⟩ ⟨c1,c2⟩ ⟨d1,d2⟩ rb ib er ei pA pB pD
   have gH:=hull_gd (gL A (List.mem_of_getElem? hA)) (gM B (List.mem_of_getElem? hB))
   have gD:=ptO_gd vx vy (by omega) (by omega) (by omega) (by omega) pD
   have hrow:=brow_at (zip_at hA hB)
   have crow:=brow_at hD
   generalize hullF A B = H at bt gH hrow
   obtain ⟨n1,n2,n3,n4⟩:=bt
   obtain ⟨w1,u1,u2,u3,u4,u5,u6⟩:=gH
   obtain ⟨w2,v1,v2,v3,v4,v5,v6⟩:=gD
   obtain ⟨Ha,Hb,Hc,Hd,Hw⟩:=H
   obtain ⟨Da,Db,Dc,Dd,Dw⟩:=D
   unfold MF at *
   simp only at w1 w2 n1 n2 n3 n4 u1 u2 u3 u4 u5 u6 v1 v2 v3 v4 v5 v6
   subst w1 w2
   refine And.intro (Int.natCast_nonneg i) (Exists.intro _ (And.intro (at_nat hrow) ?_))
   repeat (first | refine gT ?_ | refine gF ?_ | refine brT ?_ | refine brF ?_)
   refine And.intro (Int.natCast_nonneg i) (Exists.intro _ (And.intro (at_nat crow) ?_))
   repeat (first | refine gT ?_ | refine gF ?_ | refine brT ?_ | refine brF ?_)
   refine gr (fun g => absurd (show Da < w64 (Ha - 1) from g) (by rw [w64_eq (by omega)]; omega)) (fun _ => ?_)
   repeat (first | refine gT ?_ | refine gF ?_ | refine brT ?_ | refine brF ?_)
   refine gr (fun g => absurd (show Db > w64 (Hb + 1) from g) (by rw [w64_eq (by omega)]; omega)) (fun _ => ?_)
   repeat (first | refine gT ?_ | refine gF ?_ | refine brT ?_ | refine brF ?_)
   refine gr (fun g => absurd (show Dc < w64 (Hc - 1) from g) (by rw [w64_eq (by omega)]; omega)) (fun _ => ?_)
   repeat (first | refine gT ?_ | refine gF ?_ | refine brT ?_ | refine brF ?_)
   refine br (fun g => absurd (show Dd > w64 (Hd + 1) from g) (by rw [w64_eq (by omega)]; omega)) (fun _ => ?_)
   refine hP (i + 1) _ ?_ g (by omega)
   refine leC_by ⟨⟨rfl,rfl⟩,⟨rfl,rfl⟩,⟨int_eq ?_,rfl⟩,trivial⟩ trivial (Nat.le_refl _)
   exact w64_succ g (by omega)
  ·first | refine Exists.intro _ (And.intro (works_spec) ?_) | refine Hn_by (Exists.intro _ (And.intro (works_spec) ?_))
   exact And.intro (Or.inr rfl) rfl
end Ab
