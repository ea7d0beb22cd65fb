import Derived.Test.YtinhfpljdjlomaaGreatXLawQ
import Derived.Test.YtinhfpljdjlomaaGreatXBetweenP
open Go Go.Proofs
namespace Ab
set_option maxRecDepth 100000
set_option maxHeartbeats 1000000
theorem val_same {z w : Int × Int} (hz : Qv z) (hw : Qv w) (h : z.1 * w.2 = w.1 * z.2) : z = w:=by
 obtain ⟨a,b⟩:=z
 obtain ⟨c,d⟩:=w
 obtain ⟨rfl,rfl⟩:=cross_eq hz hw h
 rfl
theorem ends_alg0 {q1 q2 x1 x2 y2 V : Int} (hy : 0 < y2) (h : q1 * (x2 * y2 * 4096) = (x1 * y2 * 4096 + V * 0) * q2) : q1 * x2 = x1 * q2:=by
 refine Int.eq_of_mul_eq_mul_right (a:=y2 * 4096) (by omega) ?_
 calc q1 * x2 * (y2 * 4096) = q1 * (x2 * y2 * 4096):=by grind
  _ = (x1 * y2 * 4096 + V * 0) * q2:=h
  _ = x1 * q2 * (y2 * 4096):=by grind
theorem ends_alg1 {q1 q2 x1 x2 y1 y2 : Int} (hx : 0 < x2) (h : q1 * (x2 * y2 * 4096) = (x1 * y2 * 4096 + (y1 * x2 - x1 * y2) * 4096) * q2) : q1 * y2 = y1 * q2:=by
 refine Int.eq_of_mul_eq_mul_right (a:=x2 * 4096) (by omega) ?_
 calc q1 * y2 * (x2 * 4096) = q1 * (x2 * y2 * 4096):=by grind
  _ = (x1 * y2 * 4096 + (y1 * x2 - x1 * y2) * 4096) * q2:=h
  _ = y1 * q2 * (x2 * 4096):=by grind
theorem ex_form {q : Int × Int} {A : Bx} (h : oEx q = some A) : A = ⟨A.a,A.b,0,0,false⟩:=by
 unfold oEx at h
 cases hb : bP (Fits (q.1 * 16777216) ∧ ExOk q.1 q.2) with
 | false => rw [hb] at h; cases h
 | true => rw [hb] at h; cases h; rfl
theorem ends_zero {r : Int × Int} (hr : Qv r) {D : Int} (hD : 0 < D) {W : Int} (h : r.1 * D = W * 0 * r.2) {B : Bx} (e : oEx r = some B) : B.a = 0 ∧ B.b = 0:=by
 rw [Int.mul_zero] at h
 obtain ⟨h1,h2⟩:=ex_ends hr hD h e
 rw [h1,h2]
 simp [fl]
theorem ends_pt {x y : Int × Int} (hx : Qv x) (hy : Qv y) {C : Bx} : (ptO x y 0 0 = some C -> oEx x = some C) ∧ (ptO x y 4096 0 = some C -> oEx y = some C):=by
 have D:=Int.mul_pos (Int.mul_pos hx.2.2.1 hy.2.2.1) (show (0 : Int) < 4096 by decide)
 constructor
 ·intro h
  obtain ⟨q,r,A,B,hq,hr,vq,vr,eq,er,rfl⟩:=pt_some hx hy (by decide) (by decide) (by decide) (by decide) h
  have e1 : q = x:=val_same hq hx (ends_alg0 hy.2.2.1 vq)
  obtain ⟨b1,b2⟩:=ends_zero hr D vr er
  rw [e1] at eq
  rw [eq,b1,b2,<- ex_form eq]
 ·intro h
  obtain ⟨q,r,A,B,hq,hr,vq,vr,eq,er,rfl⟩:=pt_some hx hy (by decide) (by decide) (by decide) (by decide) h
  have e1 : q = y:=val_same hq hy (ends_alg1 hx.2.2.1 vq)
  obtain ⟨b1,b2⟩:=ends_zero hr D vr er
  rw [e1] at eq
  rw [eq,b1,b2,<- ex_form eq]
theorem in_hull {x y : Bx} (hx : Gd x) (hy : Gd y) : inB x (hullF x y) = true ∧ inB y (hullF x y) = true:=by
 obtain ⟨_,h1,h2,_,_,_,_⟩:=hx
 obtain ⟨_,k1,k2,_,_,_,_⟩:=hy
 unfold inB
 simp only [hullF,Bool.and_eq_true,beq_iff_eq,and_true]
 refine ⟨⟨?_,?_,?_,?_⟩,?_,?_,?_,?_⟩ <;> (repeat' split) <;> omega
theorem bx_self (B : Bx) : (and (B.a == B.a) (and (B.b == B.b) (and (B.c == B.c) (and (B.d == B.d) (and (B.w == B.w) true))))) = true:=by simp
theorem ends_law {l m : Ps} {a b c d : Int} (hl : QDs l) (hm : QDs m) (lm : (m.length : Int) <= 9223372036854775807) : Spec Tryz.prog [] 11 [pcv l m a b c d] (.bool true):=by
 obtain ⟨r0,q0,x0,y0⟩:=at_any hl hm lm (re:=0) (im:=0)
 obtain ⟨r4,q4,x4,y4⟩:=at_any hl hm lm (re:=4096) (im:=0)
 obtain ⟨L0,e0,rfl,k0⟩:=at_form q0
 obtain ⟨L4,e4,rfl,k4⟩:=at_form q4
 by_cases he0 : e0 = 0
 rotate_left
 ·skip
  refine spec_fn T_ok mixed_ok 0 Tryz.func11 fn_ok11 (by kernel_rfl) ?_
  first | refine Exists.intro _ (And.intro (x0) ?_) | refine Hn_by (Exists.intro _ (And.intro (x0) ?_))
  first | refine Exists.intro _ (And.intro (x4) ?_) | refine Hn_by (Exists.intro _ (And.intro (x4) ?_))
  refine grN (fun _ => ?_) (fun g => absurd g he0)
  repeat (first | refine gT ?_ | refine gF ?_ | refine brT ?_ | refine brF ?_)
  first | refine Exists.intro _ (And.intro (works_spec) ?_) | refine Hn_by (Exists.intro _ (And.intro (works_spec) ?_))
  exact And.intro (Or.inr rfl) rfl
 by_cases he4 : e4 = 0
 rotate_left
 ·skip
  refine spec_fn T_ok mixed_ok 0 Tryz.func11 fn_ok11 (by kernel_rfl) ?_
  first | refine Exists.intro _ (And.intro (x0) ?_) | refine Hn_by (Exists.intro _ (And.intro (x0) ?_))
  first | refine Exists.intro _ (And.intro (x4) ?_) | refine Hn_by (Exists.intro _ (And.intro (x4) ?_))
  refine grN (fun g => absurd he0 g) (fun _ => ?_)
  repeat (first | refine gT ?_ | refine gF ?_ | refine brT ?_ | refine brF ?_)
  refine brN (fun _ => ?_) (fun g => absurd g he4)
  first | refine Exists.intro _ (And.intro (works_spec) ?_) | refine Hn_by (Exists.intro _ (And.intro (works_spec) ?_))
  exact And.intro (Or.inr rfl) rfl
 subst he0 he4
 obtain ⟨p,o,rfl,rfl,hp,ho,⟨lo,lp⟩,_,a0⟩:=at_some q0
 obtain ⟨p',o',f1,f2,_,_,_,_,a4⟩:=at_some q4
 have ep:=qrow_eq f1
 have eo:=qrow_eq f2
 subst ep eo
 obtain ⟨r,q1,x1,y1⟩:=at_any hl hm lm (re:=a) (im:=b)
 obtain ⟨s,q2,x2,y2⟩:=at_any hl hm lm (re:=c) (im:=d)
 obtain ⟨q,h,xa,ya⟩:=along_any hl hm lm q1 q2 x1 y1 x2 y2
 have z0:=atO_len lo.symm a0
 have z4:=atO_len lo.symm a4
 have l0 : ((brow L0).length : Int) = ((qrow p).length : Int):=by rw [brow_len,qrow_len]; omega
 have l4 : ((brow L4).length : Int) = ((qrow p).length : Int):=by rw [brow_len,qrow_len]; omega
 refine spec_fn T_ok mixed_ok 0 Tryz.func11 fn_ok11 (by kernel_rfl) ?_
 first | refine Exists.intro _ (And.intro (x0) ?_) | refine Hn_by (Exists.intro _ (And.intro (x0) ?_))
 first | refine Exists.intro _ (And.intro (x4) ?_) | refine Hn_by (Exists.intro _ (And.intro (x4) ?_))
 repeat (first | refine gT ?_ | refine gF ?_ | refine brT ?_ | refine brF ?_)
 first | refine Exists.intro _ (And.intro (works_spec) ?_) | refine Hn_by (Exists.intro _ (And.intro (works_spec) ?_))
 repeat (first | refine gT ?_ | refine gF ?_ | refine brT ?_ | refine brF ?_)
 refine brE (fun _ => ?_) (fun g => absurd l0 g)
 repeat (first | refine gT ?_ | refine gF ?_ | refine brT ?_ | refine brF ?_)
 refine aw_loopN 1 (fun i : Nat => stOf [(1,.bp 0 0),(3,.sl (brow L0)),(5,.sl (brow L4)),(7,.bool true),(8,.int .i64 (i : Int))] [(0,.box [.sl (qrow p),.sl (qrow o),.int .i64 a,.int .i64 b,.int .i64 c,.int .i64 d])] 1) (fun i => i <= L0.length) (fun i => L0.length - i) 0 (Nat.zero_le _)
  (.inl (le_by ⟨rfl,rfl,rfl,(show AV.bool (((brow L4).length : Int) == ((qrow p).length : Int)) = AV.bool true by rw [l4,beq_self_eq_true]),rfl,trivial⟩ ⟨rfl,trivial⟩ (Nat.le_refl _))) (by kernel_rfl) ?_
 intro i hi P hP
 repeat (first | refine gT ?_ | refine gF ?_ | refine brT ?_ | refine brF ?_)
 refine br (fun g => ?_) (fun g => ?_)
 ·have g : i < L0.length:=by have : (i : Int) < ((brow L0).length : Int):=g; rw [brow_len] at this; omega
  obtain ⟨A,hA⟩:=get_of g
  obtain ⟨B,hB⟩:=get_of (l:=L4) (i:=i) (by omega)
  obtain ⟨x,y,f1,f2,pA⟩:=atO_at a0 i A hA
  obtain ⟨x',y',f3,f4,pB⟩:=atO_at a4 i B hB
  rw [f1] at f3
  rw [f2] at f4
  cases f3; cases f4
  have vx:=hp x (List.mem_of_getElem? f1)
  have vy:=ho y (List.mem_of_getElem? f2)
  have s1:=(exact_tot vx).1
  have s2:=(exact_tot vy).1
  rw [(ends_pt vx vy).1 pA,show bAV (some A) = .tup [bx A.a A.b A.c A.d A.w,.int .i64 0] from rfl] at s1
  rw [(ends_pt vx vy).2 pB,show bAV (some B) = .tup [bx B.a B.b B.c B.d B.w,.int .i64 0] from rfl] at s2
  refine And.intro (Int.natCast_nonneg i) (Exists.intro _ (And.intro (at_nat (qrow_at f1)) ?_))
  first | refine Exists.intro _ (And.intro (s1) ?_) | refine Hn_by (Exists.intro _ (And.intro (s1) ?_))
  refine And.intro (Int.natCast_nonneg i) (Exists.intro _ (And.intro (at_nat (qrow_at f2)) ?_))
  first | refine Exists.intro _ (And.intro (s2) ?_) | refine Hn_by (Exists.intro _ (And.intro (s2) ?_))
  refine And.intro (by kernel_rfl) ?_
  refine And.intro (Int.natCast_nonneg i) (Exists.intro _ (And.intro (at_nat (brow_at hA)) ?_))
  repeat (first | refine gT ?_ | refine gF ?_ | refine brT ?_ | refine brF ?_ | refine And.intro rfl ?_)
  refine brB (fun _ => ?_) (fun h => Bool.noConfusion ((bx_self A).symm.trans h))
  repeat (first | refine gT ?_ | refine gF ?_ | refine brT ?_ | refine brF ?_ | refine And.intro rfl ?_)
  refine And.intro (Int.natCast_nonneg i) (Exists.intro _ (And.intro (at_nat (brow_at hB)) ?_))
  repeat (first | refine gT ?_ | refine gF ?_ | refine brT ?_ | refine brF ?_ | refine And.intro rfl ?_)
  refine hP (i + 1) _ ?_ g (by omega)
  refine leC_by ⟨⟨rfl,rfl⟩,⟨rfl,rfl⟩,⟨rfl,rfl⟩,⟨congrArg AV.bool (bx_self B),rfl⟩,⟨int_eq ?_,rfl⟩,trivial⟩ ⟨⟨⟨rfl,rfl⟩,rfl⟩,trivial⟩ (Nat.le_refl _)
  exact w64_succ g (by omega)
 clear hP hi g
 first | refine Exists.intro _ (And.intro (x1) ?_) | refine Hn_by (Exists.intro _ (And.intro (x1) ?_))
 cases h with
 | one h0 =>
  obtain ⟨M,f,rfl,_⟩:=at_form q2
  first | refine Exists.intro _ (And.intro (x2) ?_) | refine Hn_by (Exists.intro _ (And.intro (x2) ?_))
  first | refine Exists.intro _ (And.intro (xa) ?_) | refine Hn_by (Exists.intro _ (And.intro (xa) ?_))
  refine grN (fun _ => ?_) (fun g => absurd g h0)
  repeat (first | refine gT ?_ | refine gF ?_ | refine brT ?_ | refine brF ?_)
  exact And.intro (Or.inr rfl) (congrArg AV.bool (bne_iff_ne.2 h0))
 | two h0 =>
  first | refine Exists.intro _ (And.intro (x2) ?_) | refine Hn_by (Exists.intro _ (And.intro (x2) ?_))
  first | refine Exists.intro _ (And.intro (xa) ?_) | refine Hn_by (Exists.intro _ (And.intro (xa) ?_))
  repeat (first | refine gT ?_ | refine gF ?_ | refine brT ?_ | refine brF ?_)
  refine brN (fun _ => ?_) (fun g => absurd g h0)
  repeat (first | refine gT ?_ | refine gF ?_ | refine brT ?_ | refine brF ?_)
  exact And.intro (Or.inr rfl) (congrArg AV.bool (bne_iff_ne.2 h0))
 | @all L M k1 k2 gL gM =>
  have hz : (List.zipWith hullF L M).length = L.length:=by rw [List.length_zipWith]; omega
  have lh : ((brow (List.zipWith hullF L M)).length : Int) = ((brow L).length : Int):=by rw [brow_len,brow_len,hz]
  have lM : ((brow M).length : Int) = ((brow L).length : Int):=by rw [brow_len,brow_len,k2]
  first | refine Exists.intro _ (And.intro (x2) ?_) | refine Hn_by (Exists.intro _ (And.intro (x2) ?_))
  first | refine Exists.intro _ (And.intro (xa) ?_) | refine Hn_by (Exists.intro _ (And.intro (xa) ?_))
  repeat (first | refine gT ?_ | refine gF ?_ | refine brT ?_ | refine brF ?_)
  refine brE (fun _ => ?_) (fun g => absurd lh g)
  repeat (first | refine gT ?_ | refine gF ?_ | refine brT ?_ | refine brF ?_)
  refine aw_loopN 1 (fun i : Nat => stOf [(7,.bool true),(13,.sl (brow L)),(15,.sl (brow M)),(17,.sl (brow (List.zipWith hullF L M))),(19,.int .i64 (i : Int))] [] 1) (fun i => i <= L.length) (fun i => L.length - i) 0 (Nat.zero_le _)
   (.inl (le_by ⟨(show AV.bool (((brow M).length : Int) == ((brow L).length : Int)) = AV.bool true by rw [lM,beq_self_eq_true]),rfl,rfl,rfl,rfl,trivial⟩ trivial (Nat.le_refl _))) (by kernel_rfl) ?_
  intro i hi P hP
  repeat (first | refine gT ?_ | refine gF ?_ | refine brT ?_ | refine brF ?_)
  refine br (fun g => ?_) (fun g => ?_)
  ·have g : i < L.length:=by have : (i : Int) < ((brow L).length : Int):=g; rw [brow_len] at this; omega
   obtain ⟨A,hA⟩:=get_of g
   obtain ⟨B,hB⟩:=get_of (l:=M) (i:=i) (by omega)
   have gA:=gL A (List.mem_of_getElem? hA)
   have gB:=gM B (List.mem_of_getElem? hB)
   have s1:=ginside_spec gA (hull_gd gA gB)
   have s2:=ginside_spec gB (hull_gd gA gB)
   rw [(in_hull gA gB).1] at s1
   rw [(in_hull gA gB).2] at s2
   have hrow:=brow_at (zip_at hA hB)
   generalize hullF A B = H at s1 s2 hrow
   refine And.intro (by kernel_rfl) ?_
   refine And.intro (Int.natCast_nonneg i) (Exists.intro _ (And.intro (at_nat (brow_at hA)) ?_))
   refine And.intro (Int.natCast_nonneg i) (Exists.intro _ (And.intro (at_nat hrow) ?_))
   repeat (first | refine gT ?_ | refine gF ?_ | refine brT ?_ | refine brF ?_ | refine And.intro rfl ?_)
   first | refine Exists.intro _ (And.intro (s1) ?_) | refine Hn_by (Exists.intro _ (And.intro (s1) ?_))
   repeat (first | refine gT ?_ | refine gF ?_ | refine brT ?_ | refine brF ?_ | refine And.intro rfl ?_)
   refine And.intro (Int.natCast_nonneg i) (Exists.intro _ (And.intro (at_nat (brow_at hB)) ?_))
   repeat (first | refine gT ?_ | refine gF ?_ | refine brT ?_ | refine brF ?_ | refine And.intro rfl ?_)
   refine And.intro (Int.natCast_nonneg i) (Exists.intro _ (And.intro (at_nat hrow) ?_))
   repeat (first | refine gT ?_ | refine gF ?_ | refine brT ?_ | refine brF ?_ | refine And.intro rfl ?_)
   first | refine Exists.intro _ (And.intro (s2) ?_) | refine Hn_by (Exists.intro _ (And.intro (s2) ?_))
   repeat (first | refine gT ?_ | refine gF ?_ | refine brT ?_ | refine brF ?_ | refine And.intro rfl ?_)
   refine hP (i + 1) _ ?_ g (by omega)
   refine .inl (le_by ⟨rfl,rfl,rfl,rfl,int_eq ?_,trivial⟩ trivial (Nat.le_refl _))
   exact w64_succ g (by omega)
  ·exact And.intro (Or.inr rfl) rfl
end Ab
