import Derived.Test.YtinhfpljdjlomaaGreatXGr
section
open Go Go.Proofs
namespace Ab
set_option maxRecDepth 100000
set_option maxHeartbeats 1000000
theorem rtimes_spec (gl : List (Nat × AV)) {a b : List Int} (ha : Dg.D a) (hb : Dg.D b) (hla : a.length <= 536870912) (hlb : b.length <= 536870912) :
  Spec Tryz.prog gl 162 [lim a,lim b] (lim (Dg.mag (Dg.val a * Dg.val b))):=by
 refine spec_fn T_ok mixed_ok 0 Tryz.func162 fn_ok162 (by kernel_rfl) ?_
 have la : ((irows .u32 a).length : Int) = a.length:=by rw [irows_len]
 have lb : ((irows .u32 b).length : Int) = b.length:=by rw [irows_len]
 have hs : w64 (((irows .u32 a).length : Int) + ((irows .u32 b).length : Int)) = ((a.length + b.length : Nat) : Int):=by rw [la,lb,w64_eq (by omega)]; omega
 have hsn : (w64 (((irows .u32 a).length : Int) + ((irows .u32 b).length : Int))).toNat = a.length + b.length:=by omega
 refine And.intro (show (0 : Int) <= w64 (((irows .u32 a).length : Int) + ((irows .u32 b).length : Int)) by omega) (And.intro (Int.le_refl _) (And.intro (show w64 (((irows .u32 a).length : Int) + ((irows .u32 b).length : Int)) * 4 <= 140737488355328 by omega) (And.intro (show w64 (((irows .u32 a).length : Int) + ((irows .u32 b).length : Int)) <= maxLen by simp [maxLen]; omega) ?_)))
 refine aw_loop (fun q : Nat × List Int => stOf [(0,lim a),(1,lim b),(5,.ms 0 0 (a.length + b.length)),(6,.int .i64 (q.1 : Int))] [(0,.arr (132,1) (irows .u32 q.2) true)] 1)
  (fun q => q.1 <= a.length ∧ Dg.D q.2 ∧ q.2.length = a.length + b.length ∧ (∀ j,q.1 + b.length <= j -> q.2.getD j 0 = 0) ∧ Dg.val q.2 = Dg.val (a.take q.1) * Dg.val b) (fun q => a.length - q.1) (0,List.replicate (a.length + b.length) 0)
  ⟨Nat.zero_le _,Dg.D.rep _,by simp,fun j _ => by simp [List.getD_eq_getElem?_getD,List.getElem?_replicate]; split <;> rfl,by simp [Dg.val_rep,Dg.val]⟩
  (le_by ⟨rfl,rfl,(show AV.ms 0 0 (w64 (((irows .u32 a).length : Int) + ((irows .u32 b).length : Int))).toNat = _ by rw [hsn]),rfl,trivial⟩ ⟨(show some (Blk.arr (132,1) (List.replicate (w64 (((irows .u32 a).length : Int) + ((irows .u32 b).length : Int))).toNat [AV.int .u32 0]) true) = _ by rw [hsn,irows_rep]),trivial⟩ (Nat.le_refl _)) ?_
 rintro ⟨i,o⟩ ⟨hi,ho,hol,hz,hv⟩ P hP
 simp only at hi ho hol hz hv
 refine br (fun h2 => ?_) (fun h2 => ?_)
 ·have h2' : i < a.length:=by have : (i : Int) < ((irows .u32 a).length : Int):=h2; omega
  have ax:=Dg.getD_bd ha i
  have ix : (irows .u32 a)[((i : Int)).toNat]? = some [.int .u32 (a.getD i 0)]:=irows_at (getD_some h2')
  have i0 : 0 <= (i : Int):=by omega
  refine aw_loop (fun q : Nat × List Int × Int => stOf [(0,lim a),(1,lim b),(5,.ms 0 0 (a.length + b.length)),(6,.int .i64 (i : Int)),(7,.int .u64 q.2.2),(8,.int .i64 (q.1 : Int))] [(0,.arr (132,1) (irows .u32 q.2.1) true)] 1)
   (fun q => q.1 <= b.length ∧ Dg.D q.2.1 ∧ q.2.1.length = a.length + b.length ∧ (∀ j,i + b.length <= j -> q.2.1.getD j 0 = 0) ∧ (0 <= q.2.2 ∧ q.2.2 < Dg.B) ∧ Dg.val q.2.1 + Dg.B ^ (i + q.1) * q.2.2 = Dg.val o + a.getD i 0 * (Dg.B ^ i * Dg.val (b.take q.1))) (fun q => b.length - q.1) (0,o,0)
   ⟨Nat.zero_le _,ho,hol,hz,⟨Int.le_refl 0,by show (0 : Int) < Dg.B; decide⟩,by simp [Dg.val]⟩
   (le_by ⟨rfl,rfl,rfl,rfl,rfl,rfl,trivial⟩ ⟨rfl,trivial⟩ (Nat.le_refl _)) ?_
  rintro ⟨k,u,c⟩ ⟨hk,hu,hul,huz,hc,huv⟩ P' hP'
  simp only at hk hu hul huz hc huv
  refine br (fun h3 => ?_) (fun h3 => ?_)
  ·have h3' : k < b.length:=by have : (k : Int) < ((irows .u32 b).length : Int):=h3; omega
   have bx:=Dg.getD_bd hb k
   have ux:=Dg.getD_bd hu (i + k)
   have iy : (irows .u32 b)[((k : Int)).toNat]? = some [.int .u32 (b.getD k 0)]:=irows_at (getD_some h3')
   have hw : w64 ((i : Int) + k) = ((i + k : Nat) : Int):=by rw [w64_eq (by omega)]; omega
   have hoi : (irows .u32 u)[0 + (w64 ((i : Int) + k)).toNat]? = some [.int .u32 (u.getD (i + k) 0)]:=irows_at (by rw [hw,Nat.zero_add]; exact getD_some (by simp; omega))
   have hbd:=Dg.mul_bd ax bx ux hc
   simp only [Dg.B] at ax bx ux hc
   obtain ⟨t,ht⟩ : ∃ t,t = a.getD i 0 * b.getD k 0 + u.getD (i + k) 0 + c:=⟨_,rfl⟩
   rw [<- ht] at hbd
   have e1 : u64 (u64 (u64 (u64 (a.getD i 0) * u64 (b.getD k 0)) + u64 (u.getD (i + k) 0)) + c) = t:=by
    rw [u64_in (n:=a.getD i 0) (by omega),u64_in (n:=b.getD k 0) (by omega),u64_in (n:=u.getD (i + k) 0) (by omega),u64_in (n:=a.getD i 0 * b.getD k 0) ⟨hbd.2.2.1,by have:=hbd.2.2.2; omega⟩,u64_in (n:=a.getD i 0 * b.getD k 0 + u.getD (i + k) 0) ⟨by have:=hbd.2.2.1; omega,by have:=hbd.2.1; omega⟩,u64_in (n:=a.getD i 0 * b.getD k 0 + u.getD (i + k) 0 + c) ⟨by have:=hbd.1; omega,by have:=hbd.2.1; omega⟩,ht]
   refine And.intro (by kernel_rfl) ?_
   repeat (first | refine gT ?_ | refine gF ?_ | refine brT ?_ | refine brF ?_ | refine And.intro rfl ?_)
   refine And.intro i0 (Exists.intro _ (And.intro ix ?_))
   repeat (first | refine gT ?_ | refine gF ?_ | refine brT ?_ | refine brF ?_ | refine And.intro rfl ?_)
   refine And.intro (show (0 : Int) <= (k : Int) by omega) (Exists.intro _ (And.intro iy ?_))
   repeat (first | refine gT ?_ | refine gF ?_ | refine brT ?_ | refine brF ?_ | refine And.intro rfl ?_)
   refine And.intro (show (0 : Int) <= w64 ((i : Int) + k) by omega) (And.intro (show w64 ((i : Int) + k) < ((a.length + b.length : Nat) : Int) by omega) (Exists.intro _ (And.intro hoi ?_)))
   repeat (first | refine gT ?_ | refine gF ?_ | refine brT ?_ | refine brF ?_ | refine And.intro rfl ?_)
   refine And.intro (show (0 : Int) <= w64 ((i : Int) + k) by omega) (And.intro (show w64 ((i : Int) + k) < ((a.length + b.length : Nat) : Int) by omega) (Exists.intro _ (And.intro hoi ?_)))
   refine And.intro (by decide) ?_
   have e3 : u32 (u64 (u64 (u64 (u64 (a.getD i 0) * u64 (b.getD k 0)) + u64 (u.getD (i + k) 0)) + c)) = t % Dg.B:=by rw [e1,u32_eq]
   have e4 : u64 (Int.tdiv (u64 (u64 (u64 (u64 (a.getD i 0) * u64 (b.getD k 0)) + u64 (u.getD (i + k) 0)) + c)) 4294967296) = t / Dg.B:=by
    rw [e1,Int.tdiv_eq_ediv_of_nonneg hbd.1,u64_in (by have:=hbd.2.1; have:=hbd.1; omega)]
   have hw2 : w64 ((k : Int) + 1) = ((k + 1 : Nat) : Int):=by rw [w64_eq (by omega)]; omega
   refine hP' (k + 1,u.set (i + k) (t % Dg.B),t / Dg.B) _ (le_by ⟨rfl,rfl,rfl,rfl,int_eq e4,int_eq hw2,trivial⟩ ⟨(show some (Blk.arr (132,1) ((irows .u32 u).set (0 + (w64 ((i : Int) + k)).toNat) [.int .u32 (u32 (u64 (u64 (u64 (u64 (a.getD i 0) * u64 (b.getD k 0)) + u64 (u.getD (i + k) 0)) + c)))]) true) = _ by rw [e3,hw,Nat.zero_add,irows_set]; rfl),trivial⟩ (Nat.le_refl _))
    ⟨by show k + 1 <= _; omega,hu.set (by simp only [Dg.B]; omega) (by simp only [Dg.B]; omega),by simp [hul],fun j hj => ?_,by simp only [Dg.B]; omega,?_⟩ (by show b.length - (k + 1) < b.length - k; omega)
   ·have:=huz j hj
    rw [List.getD_eq_getElem?_getD] at this ⊢
    rw [List.getElem?_set_ne (by omega)]; exact this
   ·show Dg.val (u.set (i + k) (t % Dg.B)) + Dg.B ^ (i + (k + 1)) * (t / Dg.B) = Dg.val o + a.getD i 0 * (Dg.B ^ i * Dg.val (b.take (k + 1)))
    rw [Dg.val_set _ _ _ (by omega),Dg.take_succ b,<- Nat.add_assoc,Int.pow_succ,Int.pow_add] at *
    have e6 : t % Dg.B + Dg.B * (t / Dg.B) = t:=Int.emod_add_mul_ediv t Dg.B
    generalize t % Dg.B = q1 at *
    generalize t / Dg.B = q2 at *
    generalize Dg.B ^ i = X at *
    generalize Dg.B ^ k = Y at *
    generalize Dg.val u = U at *
    generalize Dg.val (b.take k) = W at *
    have e7 : X * Y * (t - u.getD (i + k) 0) = X * Y * (a.getD i 0 * b.getD k 0 + c):=by congr 1; omega
    grind
  ·have h3' : k = b.length:=by have : ¬ (k : Int) < ((irows .u32 b).length : Int):=h3; omega
   subst h3'
   clear hP'
   have hw : w64 ((i : Int) + ((irows .u32 b).length : Int)) = ((i + b.length : Nat) : Int):=by rw [lb,w64_eq (by omega)]; omega
   have hoi : (irows .u32 u)[0 + (w64 ((i : Int) + ((irows .u32 b).length : Int))).toNat]? = some [.int .u32 (u.getD (i + b.length) 0)]:=irows_at (by rw [hw,Nat.zero_add]; exact getD_some (by simp; omega))
   refine And.intro (show (0 : Int) <= w64 ((i : Int) + ((irows .u32 b).length : Int)) by omega) (And.intro (show w64 ((i : Int) + ((irows .u32 b).length : Int)) < ((a.length + b.length : Nat) : Int) by omega) (Exists.intro _ (And.intro hoi ?_)))
   have hw2 : w64 ((i : Int) + 1) = ((i + 1 : Nat) : Int):=by rw [w64_eq (by omega)]; omega
   have hc2:=hc
   simp only [Dg.B] at hc2
   have e3 : u32 c = c:=u32_in (by omega)
   refine hP (i + 1,u.set (i + b.length) c) _ (le_by ⟨rfl,rfl,rfl,int_eq hw2,trivial⟩ ⟨(show some (Blk.arr (132,1) ((irows .u32 u).set (0 + (w64 ((i : Int) + ((irows .u32 b).length : Int))).toNat) [.int .u32 (u32 c)]) true) = _ by rw [e3,hw,Nat.zero_add,irows_set]; rfl),trivial⟩ (Nat.le_refl _))
    ⟨by show i + 1 <= _; omega,hu.set hc.1 hc.2,by simp [hul],fun j hj => ?_,?_⟩ (by show a.length - (i + 1) < a.length - i; omega)
   ·have:=huz j (by have : i + 1 + b.length <= j:=hj; omega)
    have hj' : i + 1 + b.length <= j:=hj
    show (u.set (i + b.length) c).getD j 0 = 0
    rw [List.getD_eq_getElem?_getD] at this ⊢
    rw [List.getElem?_set_ne (by omega)]; exact this
   ·show Dg.val (u.set (i + b.length) c) = Dg.val (a.take (i + 1)) * Dg.val b
    rw [Dg.val_set _ _ _ (by omega),huz _ (Nat.le_refl _),Dg.take_succ a]
    rw [List.take_of_length_le (Nat.le_refl _)] at huv
    rw [hv] at huv
    rw [Int.sub_zero,huv,Int.add_mul]
    grind
 ·have h2' : i = a.length:=by have : ¬ (i : Int) < ((irows .u32 a).length : Int):=h2; omega
  subst h2'
  clear hP
  rw [List.take_of_length_le (Nat.le_refl _)] at hv
  rw [<- hv]
  have hts:=rtrim_spec gl o (by omega)
  rw [Dg.trim_mag ho] at hts
  have e5 : ((irows .u32 o).drop 0).take (a.length + b.length) = irows .u32 o:=by
   rw [List.drop_zero,List.take_of_length_le (by rw [irows_len]; omega)]
  rw [show lim o = AV.sl (irows .u32 o) from rfl,<- e5] at hts
  refine And.intro (show 0 + (a.length + b.length) <= (irows .u32 o).length by rw [irows_len]; omega) ?_
  refine Exists.intro _ (And.intro hts ?_)
  exact And.intro (Or.inr rfl) rfl
end Ab
end
section
open Go Go.Proofs
namespace Ab
set_option maxRecDepth 100000
set_option maxHeartbeats 1000000
theorem rmul_walk (gl : List (Nat × AV)) {an bn zn : Bool} {al bl pl zl : List Int} {ec : Int} (v1 : Spec Tryz.prog gl 111 [mkI an al] (.bool true)) (v2 : Spec Tryz.prog gl 111 [mkI bn bl] (.bool true))
  (tm : Spec Tryz.prog gl 162 [lim al,lim bl] (lim pl)) (ft : Spec Tryz.prog gl 151 [.bool (an != bn),lim pl] (.tup [mkI zn zl,.int .i64 ec])) :
  Spec Tryz.prog gl 125 [mkI an al,mkI bn bl] (.tup [mkI zn zl,.int .i64 ec]):=by
 cases an <;> cases bn <;>
 ·refine spec_fn T_ok mixed_ok 0 Tryz.func125 fn_ok125 (by kernel_rfl) ?_
  first | refine Exists.intro _ (And.intro (v1) ?_) | refine Hn_by (Exists.intro _ (And.intro (v1) ?_))
  repeat (first | refine gT ?_ | refine gF ?_ | refine brT ?_ | refine brF ?_)
  first | refine Exists.intro _ (And.intro (v2) ?_) | refine Hn_by (Exists.intro _ (And.intro (v2) ?_))
  repeat (first | refine gT ?_ | refine gF ?_ | refine brT ?_ | refine brF ?_)
  refine And.intro (by kernel_rfl) ?_
  repeat (first | refine gT ?_ | refine gF ?_ | refine brT ?_ | refine brF ?_ | refine And.intro rfl ?_)
  first | refine Exists.intro _ (And.intro (tm) ?_) | refine Hn_by (Exists.intro _ (And.intro (tm) ?_))
  repeat (first | refine gT ?_ | refine gF ?_ | refine brT ?_ | refine brF ?_ | refine And.intro rfl ?_)
  first | refine Exists.intro _ (And.intro (ft) ?_) | refine Hn_by (Exists.intro _ (And.intro (ft) ?_))
  repeat (first | refine gT ?_ | refine gF ?_ | refine brT ?_ | refine brF ?_ | refine And.intro rfl ?_)
  exact And.intro (Or.inr rfl) rfl
theorem rmul_int (gl : List (Nat × AV)) {a b : Int} (ha : Fits a) (hb : Fits b) (hab : Fits (a * b)) : Spec Tryz.prog gl 125 [mkZ a,mkZ b] (.tup [mkZ (a * b),.int .i64 0]):=by
 have la:=fits_len ha
 have lb:=fits_len hb
 have tm:=rtimes_spec gl (Dg.magD (az a)) (Dg.magD (az b)) (by omega) (by omega)
 rw [val_az,val_az] at tm
 exact rmul_walk gl (rvalid_int gl ha) (rvalid_int gl hb) tm (rfit_int gl (Int.mul_nonneg (az_nn a) (az_nn b)) (sign_mul a b) hab)
theorem radd_same (gl : List (Nat × AV)) {an zn : Bool} {al bl pl zl : List Int} {ec : Int} (v1 : Spec Tryz.prog gl 111 [mkI an al] (.bool true)) (v2 : Spec Tryz.prog gl 111 [mkI an bl] (.bool true))
  (pm : Spec Tryz.prog gl 152 [lim al,lim bl] (lim pl)) (ft : Spec Tryz.prog gl 151 [.bool an,lim pl] (.tup [mkI zn zl,.int .i64 ec])) :
  Spec Tryz.prog gl 161 [mkI an al,mkI an bl] (.tup [mkI zn zl,.int .i64 ec]):=by
 cases an <;>
 ·refine spec_fn T_ok mixed_ok 0 Tryz.func161 fn_ok161 (by kernel_rfl) ?_
  first | refine Exists.intro _ (And.intro (v1) ?_) | refine Hn_by (Exists.intro _ (And.intro (v1) ?_))
  repeat (first | refine gT ?_ | refine gF ?_ | refine brT ?_ | refine brF ?_)
  first | refine Exists.intro _ (And.intro (v2) ?_) | refine Hn_by (Exists.intro _ (And.intro (v2) ?_))
  repeat (first | refine gT ?_ | refine gF ?_ | refine brT ?_ | refine brF ?_)
  refine And.intro (by kernel_rfl) ?_
  repeat (first | refine gT ?_ | refine gF ?_ | refine brT ?_ | refine brF ?_ | refine And.intro rfl ?_)
  first | refine Exists.intro _ (And.intro (pm) ?_) | refine Hn_by (Exists.intro _ (And.intro (pm) ?_))
  repeat (first | refine gT ?_ | refine gF ?_ | refine brT ?_ | refine brF ?_ | refine And.intro rfl ?_)
  first | refine Exists.intro _ (And.intro (ft) ?_) | refine Hn_by (Exists.intro _ (And.intro (ft) ?_))
  repeat (first | refine gT ?_ | refine gF ?_ | refine brT ?_ | refine brF ?_ | refine And.intro rfl ?_)
  exact And.intro (Or.inr rfl) rfl
theorem radd_ge (gl : List (Nat × AV)) {an zn : Bool} {al bl pl zl : List Int} {ec : Int} {c : Int} (v1 : Spec Tryz.prog gl 111 [mkI an al] (.bool true)) (v2 : Spec Tryz.prog gl 111 [mkI (!an) bl] (.bool true))
  (od : Spec Tryz.prog gl 155 [lim al,lim bl] (.int .i64 c)) (hc : c ≥ 0) (mi : Spec Tryz.prog gl 156 [lim al,lim bl] (lim pl)) (ft : Spec Tryz.prog gl 151 [.bool an,lim pl] (.tup [mkI zn zl,.int .i64 ec])) :
  Spec Tryz.prog gl 161 [mkI an al,mkI (!an) bl] (.tup [mkI zn zl,.int .i64 ec]):=by
 cases an <;>
 ·refine spec_fn T_ok mixed_ok 0 Tryz.func161 fn_ok161 (by kernel_rfl) ?_
  first | refine Exists.intro _ (And.intro (v1) ?_) | refine Hn_by (Exists.intro _ (And.intro (v1) ?_))
  repeat (first | refine gT ?_ | refine gF ?_ | refine brT ?_ | refine brF ?_)
  first | refine Exists.intro _ (And.intro (v2) ?_) | refine Hn_by (Exists.intro _ (And.intro (v2) ?_))
  repeat (first | refine gT ?_ | refine gF ?_ | refine brT ?_ | refine brF ?_)
  first | refine Exists.intro _ (And.intro (od) ?_) | refine Hn_by (Exists.intro _ (And.intro (od) ?_))
  refine br (fun _ => ?_) (fun g => absurd hc g)
  refine And.intro (by kernel_rfl) ?_
  repeat (first | refine gT ?_ | refine gF ?_ | refine brT ?_ | refine brF ?_ | refine And.intro rfl ?_)
  first | refine Exists.intro _ (And.intro (mi) ?_) | refine Hn_by (Exists.intro _ (And.intro (mi) ?_))
  repeat (first | refine gT ?_ | refine gF ?_ | refine brT ?_ | refine brF ?_ | refine And.intro rfl ?_)
  first | refine Exists.intro _ (And.intro (ft) ?_) | refine Hn_by (Exists.intro _ (And.intro (ft) ?_))
  repeat (first | refine gT ?_ | refine gF ?_ | refine brT ?_ | refine brF ?_ | refine And.intro rfl ?_)
  exact And.intro (Or.inr rfl) rfl
theorem radd_lt (gl : List (Nat × AV)) {an zn : Bool} {al bl pl zl : List Int} {ec : Int} {c : Int} (v1 : Spec Tryz.prog gl 111 [mkI an al] (.bool true)) (v2 : Spec Tryz.prog gl 111 [mkI (!an) bl] (.bool true))
  (od : Spec Tryz.prog gl 155 [lim al,lim bl] (.int .i64 c)) (hc : ¬ c ≥ 0) (mi : Spec Tryz.prog gl 156 [lim bl,lim al] (lim pl)) (ft : Spec Tryz.prog gl 151 [.bool (!an),lim pl] (.tup [mkI zn zl,.int .i64 ec])) :
  Spec Tryz.prog gl 161 [mkI an al,mkI (!an) bl] (.tup [mkI zn zl,.int .i64 ec]):=by
 cases an <;>
 ·refine spec_fn T_ok mixed_ok 0 Tryz.func161 fn_ok161 (by kernel_rfl) ?_
  first | refine Exists.intro _ (And.intro (v1) ?_) | refine Hn_by (Exists.intro _ (And.intro (v1) ?_))
  repeat (first | refine gT ?_ | refine gF ?_ | refine brT ?_ | refine brF ?_)
  first | refine Exists.intro _ (And.intro (v2) ?_) | refine Hn_by (Exists.intro _ (And.intro (v2) ?_))
  repeat (first | refine gT ?_ | refine gF ?_ | refine brT ?_ | refine brF ?_)
  first | refine Exists.intro _ (And.intro (od) ?_) | refine Hn_by (Exists.intro _ (And.intro (od) ?_))
  refine br (fun g => absurd g hc) (fun _ => ?_)
  refine And.intro (by kernel_rfl) ?_
  repeat (first | refine gT ?_ | refine gF ?_ | refine brT ?_ | refine brF ?_ | refine And.intro rfl ?_)
  first | refine Exists.intro _ (And.intro (mi) ?_) | refine Hn_by (Exists.intro _ (And.intro (mi) ?_))
  repeat (first | refine gT ?_ | refine gF ?_ | refine brT ?_ | refine brF ?_ | refine And.intro rfl ?_)
  first | refine Exists.intro _ (And.intro (ft) ?_) | refine Hn_by (Exists.intro _ (And.intro (ft) ?_))
  repeat (first | refine gT ?_ | refine gF ?_ | refine brT ?_ | refine brF ?_ | refine And.intro rfl ?_)
  exact And.intro (Or.inr rfl) rfl
theorem radd_int (gl : List (Nat × AV)) {a b : Int} (ha : Fits a) (hb : Fits b) (hab : Fits (a + b)) : Spec Tryz.prog gl 161 [mkZ a,mkZ b] (.tup [mkZ (a + b),.int .i64 0]):=by
 have la:=fits_len ha
 have lb:=fits_len hb
 have v1:=rvalid_int gl ha
 have v2:=rvalid_int gl hb
 have na:=az_nn a
 have nb:=az_nn b
 unfold mkZ at v1 v2 ⊢
 by_cases hs : decide (a < 0) = decide (b < 0)
 ·have pm:=plus_spec gl (Dg.magD (az a)) (Dg.magD (az b)) (by omega) (by omega)
  rw [val_az,val_az] at pm
  have ft:=rfit_int gl (neg:=decide (a < 0)) (x:=az a + az b) (z:=a + b) (by omega) (by
   have:=decide_eq_decide.1 hs
   unfold sg az
   by_cases h : a < 0
   ·rw [decide_eq_true h]; simp only [if_true]; omega
   ·rw [decide_eq_false h]; simp only [Bool.false_eq_true,if_false]; omega) hab
  rw [<- hs] at v2 ⊢
  exact radd_same gl v1 v2 pm ft
 ·have hb' : decide (b < 0) = !decide (a < 0):=by
   revert hs
   cases decide (a < 0) <;> cases decide (b < 0) <;> simp
  have od:=order_spec gl (Dg.magD (az a)) (Dg.magD (az b)) (Dg.magC _) (Dg.magC _) (by omega)
  rw [val_az,val_az] at od
  rw [hb'] at v2 ⊢
  by_cases hc : az b <= az a
  ·have mi:=minus_spec gl (Dg.magD (az a)) (Dg.magD (az b)) (by omega) (mag_le nb hc) (by rw [val_az,val_az]; exact hc)
   rw [val_az,val_az] at mi
   have ft:=rfit_int gl (neg:=decide (a < 0)) (x:=az a - az b) (z:=a + b) (by omega) (by
    unfold sg
    by_cases h : a < 0
    ·rw [decide_eq_true h] at hb' ⊢
     have:=of_decide_eq_false hb'
     unfold az; simp only [if_true]; omega
    ·rw [decide_eq_false h] at hb' ⊢
     have:=of_decide_eq_true hb'
     unfold az; simp only [Bool.false_eq_true,if_false]; omega) hab
   exact radd_ge gl v1 v2 od (by unfold Dg.cmp; rw [if_neg (by omega)]; split <;> decide) mi ft
  ·have mi:=minus_spec gl (Dg.magD (az b)) (Dg.magD (az a)) (by omega) (mag_le na (by omega)) (by rw [val_az,val_az]; omega)
   rw [val_az,val_az] at mi
   have ft:=rfit_int gl (neg:=!decide (a < 0)) (x:=az b - az a) (z:=a + b) (by omega) (by
    unfold sg
    by_cases h : a < 0
    ·rw [decide_eq_true h] at hb' ⊢
     have:=of_decide_eq_false hb'
     unfold az; simp only [Bool.not_true,Bool.false_eq_true,if_false]; omega
    ·rw [decide_eq_false h] at hb' ⊢
     have:=of_decide_eq_true hb'
     unfold az; simp only [Bool.not_false,if_true]; omega) hab
   exact radd_lt gl v1 v2 od (by unfold Dg.cmp; rw [if_pos (by omega)]; decide) mi ft
theorem rshift_zero (gl : List (Nat × AV)) (n : Int) (v : Spec Tryz.prog gl 111 [mkI false []] (.bool true)) : Spec Tryz.prog gl 164 [mkI false [],.int .i64 n] (.tup [mkI false [],.int .i64 0]):=by
 refine spec_fn T_ok mixed_ok 0 Tryz.func164 fn_ok164 (by kernel_rfl) ?_
 first | refine Exists.intro _ (And.intro (v) ?_) | refine Hn_by (Exists.intro _ (And.intro (v) ?_))
 repeat (first | refine gT ?_ | refine gF ?_ | refine brT ?_ | refine brF ?_)
 exact And.intro (Or.inr rfl) rfl
theorem rshl_walk (gl : List (Nat × AV)) {an zn : Bool} {al pl zl : List Int} {n ec : Int} (v : Spec Tryz.prog gl 111 [mkI an al] (.bool true)) (h0 : al ≠ []) (n0 : 0 <= n) (n1 : n <= 4096) (l : Spec Tryz.prog gl 157 [lim al,.int .i64 n] (lim pl))
  (ft : Spec Tryz.prog gl 151 [.bool an,lim pl] (.tup [mkI zn zl,.int .i64 ec])) : Spec Tryz.prog gl 164 [mkI an al,.int .i64 n] (.tup [mkI zn zl,.int .i64 ec]):=by
 have hp:=List.length_pos_iff.2 h0
 refine spec_fn T_ok mixed_ok 0 Tryz.func164 fn_ok164 (by kernel_rfl) ?_
 first | refine Exists.intro _ (And.intro (v) ?_) | refine Hn_by (Exists.intro _ (And.intro (v) ?_))
 repeat (first | refine gT ?_ | refine gF ?_ | refine brT ?_ | refine brF ?_)
 refine brE (fun g => ?_) (fun _ => ?_)
 ·have g' : ((irows .u32 al).length : Int) = 0:=g
  rw [irows_len] at g'; omega
 refine br (fun _ => ?_) (fun g => absurd n0 g)
 refine br (fun g => ?_) (fun _ => ?_)
 ·have g' : n > 4096:=g
  omega
 refine And.intro (by kernel_rfl) ?_
 repeat (first | refine gT ?_ | refine gF ?_ | refine brT ?_ | refine brF ?_ | refine And.intro rfl ?_)
 first | refine Exists.intro _ (And.intro (l) ?_) | refine Hn_by (Exists.intro _ (And.intro (l) ?_))
 repeat (first | refine gT ?_ | refine gF ?_ | refine brT ?_ | refine brF ?_ | refine And.intro rfl ?_)
 first | refine Exists.intro _ (And.intro (ft) ?_) | refine Hn_by (Exists.intro _ (And.intro (ft) ?_))
 repeat (first | refine gT ?_ | refine gF ?_ | refine brT ?_ | refine brF ?_ | refine And.intro rfl ?_)
 exact And.intro (Or.inr rfl) rfl
theorem mag_ne {z : Int} (h : z ≠ 0) : Dg.mag (az z) ≠ []:=fun e => by
 have:=(mag_nil (az_nn z)).1 e
 unfold az at this
 omega
theorem mkZ_zero : mkZ 0 = mkI false []:=by
 unfold mkZ
 rw [show Dg.mag (az 0) = [] from (mag_nil (az_nn 0)).2 rfl]
 rfl
theorem rshl_int (gl : List (Nat × AV)) {a : Int} (ha : Fits a) {n : Nat} (hn : n <= 4096) (hf : Fits (a * 2 ^ n)) : Spec Tryz.prog gl 164 [mkZ a,.int .i64 (n : Int)] (.tup [mkZ (a * 2 ^ n),.int .i64 0]):=by
 have v:=rvalid_int gl ha
 by_cases h0 : a = 0
 ·subst h0
  rw [Int.zero_mul,mkZ_zero] at *
  exact rshift_zero gl _ v
 ·have la:=fits_len ha
  have l:=rleft_spec gl (Dg.magD (az a)) (by omega) (n:=n) (by omega)
  rw [val_az] at l
  have p : (0 : Int) < 2 ^ n:=Int.pow_pos (by decide)
  exact rshl_walk gl v (mag_ne h0) (by omega) (by omega) l (rfit_int gl (Int.mul_nonneg (az_nn a) (Int.le_of_lt p)) (sg_pow a n) hf)
end Ab
end
section
open Go Go.Proofs
namespace Ab
set_option maxRecDepth 100000
set_option maxHeartbeats 1000000
theorem rsmall_no (gl : List (Nat × AV)) {neg : Bool} {l : List Int} (v : Spec Tryz.prog gl 111 [mkI neg l] (.bool true)) (h : (irows .u32 l).length > 2) : Spec Tryz.prog gl 128 [mkI neg l] (.tup [.int .i64 0,.bool false]):=by
 refine spec_fn T_ok mixed_ok 0 Tryz.func128 fn_ok128 (by kernel_rfl) ?_
 first | refine Exists.intro _ (And.intro (v) ?_) | refine Hn_by (Exists.intro _ (And.intro (v) ?_))
 repeat (first | refine gT ?_ | refine gF ?_ | refine brT ?_ | refine brF ?_)
 refine br (fun _ => ?_) (fun g => ?_)
 ·exact And.intro (Or.inr rfl) rfl
 ·have g' : ¬ ((irows .u32 l).length : Int) > 2:=g
  omega
theorem drop_lt2 {l : List Int} (hl : Dg.D l) (h2 : l.length <= 2) {k : Nat} (hk : 0 < k) : 0 <= Dg.val (l.drop k) ∧ Dg.val (l.drop k) < 4294967296:=by
 have a:=Dg.val_nonneg (hl.drop k)
 have b:=Dg.val_lt (hl.drop k)
 have c : Dg.B ^ (l.drop k).length <= Dg.B ^ 1:=by
  rw [pow_B,pow_B]
  exact two_pow_le (by rw [List.length_drop]; omega)
 have d : Dg.B ^ 1 = 4294967296:=by decide
 omega
theorem rsmall_pos (gl : List (Nat × AV)) {l : List Int} (hl : Dg.D l) (h2 : l.length <= 2) (v : Spec Tryz.prog gl 111 [mkI false l] (.bool true)) :
  Spec Tryz.prog gl 128 [mkI false l] (.tup [.int .i64 (if Dg.val l < 9223372036854775808 then Dg.val l else 0),.bool (decide (Dg.val l < 9223372036854775808))]):=by
 have vn:=Dg.val_nonneg hl
 refine spec_fn T_ok mixed_ok 0 Tryz.func128 fn_ok128 (by kernel_rfl) ?_
 first | refine Exists.intro _ (And.intro (v) ?_) | refine Hn_by (Exists.intro _ (And.intro (v) ?_))
 repeat (first | refine gT ?_ | refine gF ?_ | refine brT ?_ | refine brF ?_)
 refine br (fun g => ?_) (fun _ => ?_)
 ·have g' : ((irows .u32 l).length : Int) > 2:=g
  rw [irows_len] at g'; omega
 refine aw_loop (fun k : Nat => stOf [(1,.bp 0 0),(4,.int .u64 (Dg.val (l.drop k))),(5,.int .i64 ((k : Int) - 1))] [(0,.box [.bool false,lim l])] 1) (fun k => k <= l.length) (fun k => k) l.length (Nat.le_refl _)
  (le_by ⟨rfl,int_eq (by rw [List.drop_length]; rfl),int_eq (by rw [irows_len]; exact w64_eq (by omega)),trivial⟩ ⟨rfl,trivial⟩ (Nat.le_refl _)) ?_
 intro k hk P hP
 refine br (fun g => ?_) (fun g => ?_)
 ·have hk0 : 0 < k:=by have : (k : Int) - 1 ≥ 0:=g; omega
  obtain ⟨i,rfl⟩ : ∃ i,k = i + 1:=⟨k - 1,by omega⟩
  have lx:=Dg.getD_bd hl i
  have ix : (irows .u32 l)[(((i + 1 : Nat) : Int) - 1).toNat]? = some [.int .u32 (l.getD i 0)]:=irows_at (by rw [show (((i + 1 : Nat) : Int) - 1).toNat = i by omega]; exact getD_some (by omega))
  have b:=drop_lt2 hl h2 (k:=i + 1) (by omega)
  have e:=Dg.drop_split (l:=l) (i:=i) (by omega)
  simp only [Dg.B] at lx e
  have e2 : u64 (u64 (Dg.val (l.drop (i + 1)) * 2 ^ 32) + u64 (l.getD i 0)) = Dg.val (l.drop i):=by
   rw [u64_in (n:=l.getD i 0) (by omega),u64_in (n:=Dg.val (l.drop (i + 1)) * 2 ^ 32) (by omega),u64_in (by omega),e]
   omega
  have hw2 : w64 (((i + 1 : Nat) : Int) - 1 - 1) = (i : Int) - 1:=by rw [w64_eq (by omega)]; omega
  refine And.intro (by decide) ?_
  refine And.intro (show (0 : Int) <= ((i + 1 : Nat) : Int) - 1 by omega) (Exists.intro _ (And.intro ix ?_))
  exact hP i _ (le_by ⟨rfl,int_eq e2,int_eq hw2,trivial⟩ ⟨rfl,trivial⟩ (Nat.le_refl _)) (by show i <= l.length; omega) (by omega)
 have hk0 : k = 0:=by have : ¬ (k : Int) - 1 ≥ 0:=g; omega
 subst hk0
 clear hP
 rw [List.drop_zero]
 repeat (first | refine gT ?_ | refine gF ?_ | refine brT ?_ | refine brF ?_)
 refine br (fun g => ?_) (fun g => ?_)
 ·have g' : Dg.val l < 9223372036854775808:=g
  rw [if_pos g',decide_eq_true g']
  refine And.intro (Or.inr rfl) ?_
  show AV.tup [AV.int .i64 (w64 (Dg.val l)),AV.bool true] = _
  rw [w64_eq (by omega)]
 ·have g' : ¬ Dg.val l < 9223372036854775808:=g
  rw [if_neg g',decide_eq_false g']
  exact And.intro (Or.inr rfl) rfl
theorem rsmall_neg (gl : List (Nat × AV)) {l : List Int} (hl : Dg.D l) (h2 : l.length <= 2) (h0 : 0 < Dg.val l) (v : Spec Tryz.prog gl 111 [mkI true l] (.bool true)) :
  Spec Tryz.prog gl 128 [mkI true l] (.tup [.int .i64 (if Dg.val l <= 9223372036854775808 then -Dg.val l else 0),.bool (decide (Dg.val l <= 9223372036854775808))]):=by
 refine spec_fn T_ok mixed_ok 0 Tryz.func128 fn_ok128 (by kernel_rfl) ?_
 first | refine Exists.intro _ (And.intro (v) ?_) | refine Hn_by (Exists.intro _ (And.intro (v) ?_))
 repeat (first | refine gT ?_ | refine gF ?_ | refine brT ?_ | refine brF ?_)
 refine br (fun g => ?_) (fun _ => ?_)
 ·have g' : ((irows .u32 l).length : Int) > 2:=g
  rw [irows_len] at g'; omega
 refine aw_loop (fun k : Nat => stOf [(1,.bp 0 0),(4,.int .u64 (Dg.val (l.drop k))),(5,.int .i64 ((k : Int) - 1))] [(0,.box [.bool true,lim l])] 1) (fun k => k <= l.length) (fun k => k) l.length (Nat.le_refl _)
  (le_by ⟨rfl,int_eq (by rw [List.drop_length]; rfl),int_eq (by rw [irows_len]; exact w64_eq (by omega)),trivial⟩ ⟨rfl,trivial⟩ (Nat.le_refl _)) ?_
 intro k hk P hP
 refine br (fun g => ?_) (fun g => ?_)
 ·have hk0 : 0 < k:=by have : (k : Int) - 1 ≥ 0:=g; omega
  obtain ⟨i,rfl⟩ : ∃ i,k = i + 1:=⟨k - 1,by omega⟩
  have lx:=Dg.getD_bd hl i
  have ix : (irows .u32 l)[(((i + 1 : Nat) : Int) - 1).toNat]? = some [.int .u32 (l.getD i 0)]:=irows_at (by rw [show (((i + 1 : Nat) : Int) - 1).toNat = i by omega]; exact getD_some (by omega))
  have b:=drop_lt2 hl h2 (k:=i + 1) (by omega)
  have e:=Dg.drop_split (l:=l) (i:=i) (by omega)
  simp only [Dg.B] at lx e
  have e2 : u64 (u64 (Dg.val (l.drop (i + 1)) * 2 ^ 32) + u64 (l.getD i 0)) = Dg.val (l.drop i):=by
   rw [u64_in (n:=l.getD i 0) (by omega),u64_in (n:=Dg.val (l.drop (i + 1)) * 2 ^ 32) (by omega),u64_in (by omega),e]
   omega
  have hw2 : w64 (((i + 1 : Nat) : Int) - 1 - 1) = (i : Int) - 1:=by rw [w64_eq (by omega)]; omega
  refine And.intro (by decide) ?_
  refine And.intro (show (0 : Int) <= ((i + 1 : Nat) : Int) - 1 by omega) (Exists.intro _ (And.intro ix ?_))
  exact hP i _ (le_by ⟨rfl,int_eq e2,int_eq hw2,trivial⟩ ⟨rfl,trivial⟩ (Nat.le_refl _)) (by show i <= l.length; omega) (by omega)
 have hk0 : k = 0:=by have : ¬ (k : Int) - 1 ≥ 0:=g; omega
 subst hk0
 clear hP
 rw [List.drop_zero]
 repeat (first | refine gT ?_ | refine gF ?_ | refine brT ?_ | refine brF ?_)
 refine br (fun g => ?_) (fun g => ?_)
 ·have g' : Dg.val l <= 9223372036854775808:=g
  rw [if_pos g',decide_eq_true g']
  refine And.intro (Or.inr rfl) ?_
  show AV.tup [AV.int .i64 (w64 (u64 (0 - Dg.val l))),AV.bool true] = _
  have e : w64 (u64 (0 - Dg.val l)) = -Dg.val l:=by
   rw [u64_eq,w64,IntKind.wrap_i64]
   omega
  rw [e]
 ·have g' : ¬ Dg.val l <= 9223372036854775808:=g
  rw [if_neg g',decide_eq_false g']
  repeat (first | refine gT ?_ | refine gF ?_ | refine brT ?_ | refine brF ?_)
  exact And.intro (Or.inr rfl) rfl
theorem rsmall_int (gl : List (Nat × AV)) {z : Int} (hz : Fits z) : (-9223372036854775808 <= z ∧ z < 9223372036854775808 -> Spec Tryz.prog gl 128 [mkZ z] (.tup [.int .i64 z,.bool true])) ∧ (¬ (-9223372036854775808 <= z ∧ z < 9223372036854775808) -> Spec Tryz.prog gl 128 [mkZ z] (.tup [.int .i64 0,.bool false])):=by
 have v:=rvalid_int gl hz
 have va:=val_az z
 have hd:=Dg.magD (az z)
 have eaz : az z = (z.natAbs : Int):=rfl
 by_cases h2 : (irows .u32 (Dg.mag (az z))).length > 2
 ·have hb : ¬ z.natAbs < 2 ^ 64:=len_gt2.1 (by rw [eaz] at h2; omega)
  refine ⟨fun h => absurd h (by omega),fun _ => ?_⟩
  exact rsmall_no gl v h2
 ·rw [irows_len] at h2
  unfold mkZ at v ⊢
  by_cases hn : z < 0
  ·rw [decide_eq_true hn] at v ⊢
   have s:=rsmall_neg gl hd (by omega) (by rw [va]; omega) v
   rw [va] at s
   refine ⟨fun h => ?_,fun h => ?_⟩
   ·rw [if_pos (by omega),decide_eq_true (by omega),show -az z = z by omega] at s
    exact s
   ·rw [if_neg (by omega),decide_eq_false (by omega)] at s
    exact s
  ·rw [decide_eq_false hn] at v ⊢
   have s:=rsmall_pos gl hd (by omega) v
   rw [va] at s
   refine ⟨fun h => ?_,fun h => ?_⟩
   ·rw [if_pos (by omega),decide_eq_true (by omega)] at s
    rw [show AV.int .i64 z = AV.int .i64 (az z) by rw [show az z = z by omega]]
    exact s
   ·rw [if_neg (by omega),decide_eq_false (by omega)] at s
    exact s
def bitl (T : Nat) : Nat:=if T = 0 then 0 else Nat.log2 T + 1
theorem bitl_lt (T : Nat) : T < 2 ^ bitl T:=by
 unfold bitl
 split
 ·omega
 ·exact Nat.lt_log2_self
theorem bitl_ne {T c : Nat} (h : c < bitl T) : T / 2 ^ c ≠ 0:=by
 unfold bitl at h
 split at h
 ·omega
 ·rename_i h0
  have a:=Nat.log2_self_le h0
  have b : 2 ^ c <= 2 ^ Nat.log2 T:=Nat.pow_le_pow_right (by decide) (by omega)
  have:=Nat.div_pos (Nat.le_trans b a) (Nat.pow_pos (n:=c) (show 0 < 2 by decide))
  omega
theorem bitl_le {T : Nat} (h : T < 2 ^ 32) : bitl T <= 32:=by
 refine Nat.not_lt.1 fun g => ?_
 have:=bitl_ne (T:=T) (c:=32) g
 exact this (Nat.div_eq_of_lt h)
theorem half_step {u v : Nat} (h : v = u / 2) (hu : u < 4294967296) : u32 (Int.tdiv (u : Int) 2) = (v : Int):=by
 rw [Int.tdiv_eq_ediv_of_nonneg (by omega),u32_in (by omega)]; omega
theorem digits_spec (gl : List (Nat × AV)) {l : List Int} (hl : Dg.D l) (hla : l.length <= 1048576) : ∃ d : Nat,d <= 32 * l.length ∧ Dg.val l < 2 ^ d ∧ Spec Tryz.prog gl 179 [lim l] (.int .i64 (d : Int)):=by
 have la : ((irows .u32 l).length : Int) = l.length:=by rw [irows_len]
 by_cases h0 : l = []
 ·subst h0
  refine ⟨0,Nat.zero_le _,by decide,?_⟩
  refine spec_fn T_ok mixed_ok 0 Tryz.func179 fn_ok179 (by kernel_rfl) ?_
  repeat (first | refine gT ?_ | refine gF ?_ | refine brT ?_ | refine brF ?_)
  exact And.intro (Or.inr rfl) rfl
 ·have hp:=List.length_pos_iff.2 h0
  obtain ⟨m,hm⟩ : ∃ m,l.length = m + 1:=⟨l.length - 1,by omega⟩
  have lx:=Dg.getD_bd hl m
  obtain ⟨x,hx⟩:=Int.eq_ofNat_of_zero_le lx.1
  rw [hx] at lx
  simp only [Dg.B] at lx
  have hb:=bitl_le (T:=x) (by omega)
  have hv : Dg.val l < 2 ^ (32 * m + bitl x):=by
   have a:=Dg.take_succ l m
   rw [List.take_of_length_le (by omega),hx] at a
   have b:=(Dg.val_take_lt hl m).2
   have c : (x : Int) + 1 <= 2 ^ bitl x:=by
    have:=bitl_lt x
    rw [<- pow_cast]; omega
   have e : (2 : Int) ^ (32 * m + bitl x) = Dg.B ^ m * 2 ^ bitl x:=by rw [Int.pow_add,<- pow_B]
   have d:=Int.mul_le_mul_of_nonneg_left c (Int.le_of_lt (Dg.pow_pos m))
   rw [Int.mul_add,Int.mul_one] at d
   rw [e,a]; omega
  refine ⟨32 * m + bitl x,by omega,hv,?_⟩
  have e1 : w64 (((irows .u32 l).length : Int) - 1) = (m : Int):=by rw [w64_eq (by omega)]; omega
  have ix : (irows .u32 l)[(w64 (((irows .u32 l).length : Int) - 1)).toNat]? = some [.int .u32 (x : Int)]:=irows_at (by rw [e1,Int.toNat_natCast,<- hx]; exact getD_some (by omega))
  refine spec_fn T_ok mixed_ok 0 Tryz.func179 fn_ok179 (by kernel_rfl) ?_
  refine brE (fun g => ?_) (fun _ => ?_)
  ·have g' : ((irows .u32 l).length : Int) = 0:=g
   omega
  refine And.intro (show (0 : Int) <= w64 (((irows .u32 l).length : Int) - 1) by omega) (Exists.intro _ (And.intro ix ?_))
  refine aw_loop (fun c : Nat => stOf [(3,.int .i64 ((32 * m + c : Nat) : Int)),(4,.int .u32 ((x / 2 ^ c : Nat) : Int))] [] 0) (fun c => c <= bitl x) (fun c => bitl x - c) 0 (Nat.zero_le _)
   (le_by ⟨int_eq (show w64 (32 * w64 (((irows .u32 l).length : Int) - 1)) = _ by rw [e1,w64_eq (by omega)]; omega),int_eq (by simp),trivial⟩ trivial (Nat.le_refl _)) ?_
  intro c hc P hP
  have hdiv : x / 2 ^ c <= x:=Nat.div_le_self _ _
  refine br (fun g => ?_) (fun g => ?_)
  ·have g' : 0 < x / 2 ^ c:=Int.natCast_pos.1 g
   have hlt : c < bitl x:=by
    refine Nat.lt_of_le_of_ne hc fun e => ?_
    subst e
    have:=Nat.div_eq_of_lt (bitl_lt x)
    omega
   have e2:=half_step (u:=x / 2 ^ c) (v:=x / 2 ^ (c + 1)) (by rw [Nat.pow_succ,<- Nat.div_div_eq_div_mul]) (Nat.lt_of_le_of_lt hdiv (by omega))
   refine And.intro (by decide) ?_
   have hw3 : w64 (((32 * m + c : Nat) : Int) + 1) = ((32 * m + (c + 1) : Nat) : Int):=by rw [w64_eq (by omega)]; omega
   exact hP (c + 1) _ (le_by ⟨int_eq hw3,int_eq e2,trivial⟩ trivial (Nat.le_refl _)) hlt (by omega)
  ·have hce : c = bitl x:=by
    refine Nat.le_antisymm hc (Nat.not_lt.1 fun e => g ?_)
    have:=bitl_ne e
    exact Int.natCast_pos.2 (Nat.pos_of_ne_zero this)
   subst hce
   clear hP
   exact And.intro (Or.inr rfl) rfl
theorem double_spec (gl : List (Nat × AV)) {l : List Int} (hl : Dg.D l) (hla : l.length <= 1048576) {low : Int} (h0 : 0 <= low) (h1 : low <= 1) :
  Spec Tryz.prog gl 180 [lim l,.int .u32 low] (lim (Dg.mag (2 * Dg.val l + low))):=by
 have la : ((irows .u32 l).length : Int) = l.length:=by rw [irows_len]
 have hM : w64 (((irows .u32 l).length : Int) + 1) = ((l.length + 1 : Nat) : Int):=by rw [la,w64_eq (by omega)]; omega
 have hMn : (w64 (((irows .u32 l).length : Int) + 1)).toNat = l.length + 1:=by omega
 refine spec_fn T_ok mixed_ok 0 Tryz.func180 fn_ok180 (by kernel_rfl) ?_
 refine And.intro (show (0 : Int) <= w64 (((irows .u32 l).length : Int) + 1) by omega) (And.intro (Int.le_refl _) (And.intro (show w64 (((irows .u32 l).length : Int) + 1) * 4 <= 140737488355328 by omega) (And.intro (show w64 (((irows .u32 l).length : Int) + 1) <= maxLen by rw [hM]; simp [maxLen]; omega) ?_)))
 refine aw_loop (fun q : Nat × List Int × Int => stOf [(0,lim l),(1,.int .u32 q.2.2),(5,.ms 0 0 (l.length + 1)),(6,.int .i64 (q.1 : Int))] [(0,.arr (132,1) (irows .u32 q.2.1) true)] 1)
  (fun q => q.1 <= l.length ∧ Dg.D q.2.1 ∧ q.2.1.length = l.length + 1 ∧ (0 <= q.2.2 ∧ q.2.2 <= 1) ∧ Dg.val (q.2.1.take q.1) + Dg.B ^ q.1 * q.2.2 = 2 * Dg.val (l.take q.1) + low) (fun q => l.length - q.1) (0,List.replicate (l.length + 1) 0,low)
  ⟨Nat.zero_le _,Dg.D.rep _,by simp,⟨h0,h1⟩,by simp [Dg.val]⟩
  (le_by ⟨rfl,rfl,(show AV.ms 0 0 (w64 (((irows .u32 l).length : Int) + 1)).toNat = _ by rw [hMn]),rfl,trivial⟩ ⟨(show some (Blk.arr (132,1) (List.replicate (w64 (((irows .u32 l).length : Int) + 1)).toNat [AV.int .u32 0]) true) = _ by rw [hMn,irows_rep]),trivial⟩ (Nat.le_refl _)) ?_
 rintro ⟨i,o,c⟩ ⟨hi,ho,hol,hc,hv⟩ P hP
 simp only at hi ho hol hc hv
 refine br (fun h2 => ?_) (fun h2 => ?_)
 ·have h2' : i < l.length:=by have : (i : Int) < ((irows .u32 l).length : Int):=h2; omega
  have ax:=Dg.getD_bd hl i
  simp only [Dg.B] at ax
  have hw2 : w64 ((i : Int) + 1) = ((i + 1 : Nat) : Int):=by rw [w64_eq (by omega)]; omega
  have ix : (irows .u32 l)[((i : Int)).toNat]? = some [.int .u32 (l.getD i 0)]:=irows_at (getD_some h2')
  have hoi : (irows .u32 o)[0 + ((i : Int)).toNat]? = some [.int .u32 (o.getD i 0)]:=irows_at (by rw [Nat.zero_add]; exact getD_some (by simp; omega))
  have e3 : u32 (u32 (l.getD i 0 * 2) + c) = (2 * l.getD i 0 + c) % Dg.B:=by rw [u32_eq,u32_eq]; simp only [Dg.B]; omega
  have e4 : Int.fdiv (l.getD i 0) (2 ^ 31) = (2 * l.getD i 0 + c) / Dg.B:=by
   rw [Int.fdiv_eq_ediv_of_nonneg _ (by decide)]; simp only [Dg.B]; omega
  refine And.intro (show (0 : Int) <= (i : Int) by omega) (Exists.intro _ (And.intro ix ?_))
  refine And.intro (show (0 : Int) <= (i : Int) by omega) (And.intro (show (i : Int) < ((l.length + 1 : Nat) : Int) by omega) (Exists.intro _ (And.intro hoi ?_)))
  refine And.intro (show (0 : Int) <= (i : Int) by omega) (Exists.intro _ (And.intro ix ?_))
  refine And.intro (by decide) ?_
  refine hP (i + 1,o.set i ((2 * l.getD i 0 + c) % Dg.B),(2 * l.getD i 0 + c) / Dg.B) _ (le_by ⟨rfl,int_eq e4,rfl,int_eq hw2,trivial⟩ ⟨(show some (Blk.arr (132,1) ((irows .u32 o).set (0 + (i : Int).toNat) [.int .u32 (u32 (u32 (l.getD i 0 * 2) + c))]) true) = _ by rw [e3,Nat.zero_add,irows_set]; rfl),trivial⟩ (Nat.le_refl _))
   ⟨by show i + 1 <= l.length; omega,ho.set (by simp only [Dg.B]; omega) (by simp only [Dg.B]; omega),by simp [hol],by simp only [Dg.B]; omega,?_⟩ (by show l.length - (i + 1) < l.length - i; omega)
  show Dg.val ((o.set i _).take (i + 1)) + Dg.B ^ (i + 1) * _ = _
  rw [Dg.set_take _ _ _ (by omega),Dg.take_succ l,Int.pow_succ]
  have e6:=Int.emod_add_mul_ediv (2 * l.getD i 0 + c) Dg.B
  generalize (2 * l.getD i 0 + c) % Dg.B = q1 at *
  generalize (2 * l.getD i 0 + c) / Dg.B = q2 at *
  generalize Dg.B ^ i = X at *
  grind
 ·have h2' : i = l.length:=by have : ¬ (i : Int) < ((irows .u32 l).length : Int):=h2; omega
  subst h2'
  clear hP
  have hoi : (irows .u32 o)[0 + (((irows .u32 l).length : Int)).toNat]? = some [.int .u32 (o.getD l.length 0)]:=irows_at (by rw [Nat.zero_add,irows_len]; exact getD_some (by omega))
  refine And.intro (show (0 : Int) <= ((irows .u32 l).length : Int) by omega) (And.intro (show ((irows .u32 l).length : Int) < ((l.length + 1 : Nat) : Int) by rw [irows_len]; omega) (Exists.intro _ (And.intro hoi ?_)))
  have hfin : Dg.val (o.set l.length c) = 2 * Dg.val l + low:=by
   have h5:=Dg.set_take o l.length c (by omega)
   rw [List.take_of_length_le (by simp; omega)] at h5
   rw [h5,hv,List.take_of_length_le (Nat.le_refl _)]
  have hts:=rtrim_spec gl (o.set l.length c) (by simp; omega)
  rw [Dg.trim_mag (ho.set (by omega) (by simp only [Dg.B]; omega)),hfin] at hts
  have e5 : (((irows .u32 o).set (0 + ((irows .u32 l).length : Int).toNat) [.int .u32 c]).drop 0).take (l.length + 1) = irows .u32 (o.set l.length c):=by
   rw [irows_len,Nat.zero_add,List.drop_zero,irows_set,irows_take]
   rw [List.take_of_length_le (by simp; omega)]; rfl
  rw [show lim (o.set l.length c) = AV.sl (irows .u32 (o.set l.length c)) from rfl,<- e5] at hts
  refine And.intro (show 0 + (l.length + 1) <= ((irows .u32 o).set (0 + ((irows .u32 l).length : Int).toNat) [.int .u32 c]).length by rw [List.length_set,irows_len]; omega) ?_
  refine Exists.intro _ (And.intro hts ?_)
  exact And.intro (Or.inr rfl) rfl
end Ab
end
section
open Go Go.Proofs
namespace Ab
set_option maxRecDepth 100000
set_option maxHeartbeats 1000000
def nilOr (b : Bool) (x : Nat) : AV:=match b with | true => .nil | false => lim (Dg.mag (x : Int))
theorem dbl_nat (gl : List (Nat × AV)) {S b : Nat} (hb : b <= 1) (hl : (Dg.mag (S : Int)).length <= 1000) : Spec Tryz.prog gl 180 [lim (Dg.mag (S : Int)),.int .u32 (b : Int)] (lim (Dg.mag ((2 * S + b : Nat) : Int))):=by
 have s:=double_spec gl (Dg.magD (S : Int)) (by omega) (low:=(b : Int)) (by omega) (by omega)
 rw [Dg.magV (Int.natCast_nonneg S),show 2 * (S : Int) + (b : Int) = ((2 * S + b : Nat) : Int) by omega] at s
 exact s
theorem bit_n (gl : List (Nat × AV)) {l : List Int} (hl : Dg.D l) {M i : Nat} (hv : Dg.val l = (M : Int)) (hi : i < 1000000000000) : Spec Tryz.prog gl 153 [lim l,.int .i64 (i : Int)] (.int .u32 ((M / 2 ^ i % 2 : Nat) : Int)):=by
 have b:=bit_spec gl hl hi
 rw [hv,bit_nat] at b
 exact b
theorem ord_nat (gl : List (Nat × AV)) {x y : Nat} (hl : (Dg.mag (x : Int)).length <= 1000) : Spec Tryz.prog gl 155 [lim (Dg.mag (x : Int)),lim (Dg.mag (y : Int))] (.int .i64 (Dg.cmp (x : Int) (y : Int))):=by
 have o:=order_spec gl (Dg.magD (x : Int)) (Dg.magD (y : Int)) (Dg.magC _) (Dg.magC _) (by omega)
 rw [Dg.magV (Int.natCast_nonneg x),Dg.magV (Int.natCast_nonneg y)] at o
 exact o
theorem minus_nat (gl : List (Nat × AV)) {x y : Nat} (h : y <= x) (hl : (Dg.mag (x : Int)).length <= 1000) : Spec Tryz.prog gl 156 [lim (Dg.mag (x : Int)),lim (Dg.mag (y : Int))] (lim (Dg.mag ((x - y : Nat) : Int))):=by
 have m:=minus_spec gl (Dg.magD (x : Int)) (Dg.magD (y : Int)) (by omega) (mag_le (Int.natCast_nonneg y) (by omega)) (by rw [Dg.magV (Int.natCast_nonneg x),Dg.magV (Int.natCast_nonneg y)]; omega)
 rw [Dg.magV (Int.natCast_nonneg x),Dg.magV (Int.natCast_nonneg y),show (x : Int) - (y : Int) = ((x - y : Nat) : Int) by omega] at m
 exact m
theorem len_big {x M : Nat} (h : x <= 16 * M + 16) (hM : (Dg.mag (M : Int)).length <= 128) : (Dg.mag (x : Int)).length <= 1000:=by
 have a:=Dg.val_lt (Dg.magD (M : Int))
 rw [Dg.magV (Int.natCast_nonneg M)] at a
 have b : Dg.B ^ (Dg.mag (M : Int)).length <= Dg.B ^ 128:=by rw [pow_B,pow_B]; exact two_pow_le (by omega)
 have c : (Dg.mag (x : Int)).length <= 129:=Dg.mag_len_lt (Int.natCast_nonneg x) (by
  have d : Dg.B ^ 129 = Dg.B ^ 128 * Dg.B:=Int.pow_succ _ _
  have e : (1 : Int) <= Dg.B ^ 128:=Dg.pow_pos 128
  rw [d]
  simp only [Dg.B] at *
  omega)
 omega
theorem mag0 : Dg.mag ((0 : Nat) : Int) = []:=Dg.mag_zero (Int.le_refl 0)
def nilArg (b : Bool) (x : Nat) : AV:=match b with | true => .sl [] | false => lim (Dg.mag (x : Int))
theorem nilArg_eq {b : Bool} {x : Nat} (hx : b = true -> x = 0) : nilArg b x = lim (Dg.mag (x : Int)):=by
 cases b with
 | false => rfl
 | true =>
  rw [hx rfl,mag0]
  rfl
end Ab
end
section
open Go Go.Proofs
namespace Ab
set_option maxRecDepth 100000
set_option maxHeartbeats 1000000
theorem limb_mult {T P x V E F Q h : Int} (hP : 0 < P) (hE : E = 2 * h) (hh : 0 < h) (hT : 0 <= T ∧ T < P) (hx : x < E * F) (H : T + P * (x + E * F * V) = P * (E * Q)) : x + h < E * F:=by
 have hT0 : T = 0:=by
  have a:=Int.add_mul_emod_self_left T P (x + E * F * V)
  rw [H,Int.mul_emod_right,Int.emod_eq_of_lt hT.1 hT.2] at a
  omega
 rw [hT0,Int.zero_add] at H
 have H2:=Int.eq_of_mul_eq_mul_left (show P ≠ 0 by omega) H
 have ex : x = E * (Q - F * V):=by grind
 rw [ex] at hx ⊢
 have g:=Int.lt_of_mul_lt_mul_left hx (by omega)
 have g2 : E * (Q - F * V + 1) <= E * F:=Int.mul_le_mul_of_nonneg_left (by omega) (by omega)
 rw [Int.mul_add,Int.mul_one] at g2
 omega
theorem add_bit {o : List Int} (ho : Dg.D o) {Q i : Nat} (hv : Dg.val o = ((Q * 2 ^ (i + 1) : Nat) : Int)) (hk : i / 32 < o.length) :
  0 <= o.getD (i / 32) 0 ∧ o.getD (i / 32) 0 + 2 ^ (i % 32) < 4294967296 ∧ Dg.val (o.set (i / 32) (o.getD (i / 32) 0 + 2 ^ (i % 32))) = (((2 * Q + 1) * 2 ^ i : Nat) : Int):=by
 obtain ⟨k,hkk⟩ : ∃ k,k = i / 32:=⟨_,rfl⟩
 obtain ⟨r,hr⟩ : ∃ r,r = i % 32:=⟨_,rfl⟩
 have hi : i = 32 * k + r:=by omega
 have hr32 : r < 32:=by omega
 rw [<- hkk] at hk ⊢
 rw [<- hr]
 have bd:=Dg.getD_bd ho k
 have e:=Dg.split_getD (l:=o) hk
 have t:=Dg.val_take_lt ho k
 have P:=Dg.pow_pos k
 have h2 : (0 : Int) < 2 ^ r:=Int.pow_pos (by decide)
 have ei : (2 : Int) ^ i = Dg.B ^ k * 2 ^ r:=by rw [hi,Int.pow_add,<- pow_B]
 have eB : Dg.B = 2 ^ (r + 1) * (2 : Int) ^ (31 - r):=by
  rw [<- Int.pow_add,show r + 1 + (31 - r) = 32 by omega]; rfl
 refine ⟨bd.1,?_,?_⟩
 ·have H : Dg.val (o.take k) + Dg.B ^ k * (o.getD k 0 + 2 ^ (r + 1) * 2 ^ (31 - r) * Dg.val (o.drop (k + 1))) = Dg.B ^ k * (2 ^ (r + 1) * (Q : Int)):=by
   rw [<- eB,<- e,hv,Int.natCast_mul,pow_cast,Int.pow_succ,ei,Int.pow_succ]
   grind
  have:=limb_mult P (Int.pow_succ 2 r ▸ Int.mul_comm _ _) h2 t (by rw [<- eB]; exact bd.2) H
  rw [<- eB] at this
  exact this
 ·rw [Dg.val_set _ _ _ hk,hv,Int.natCast_mul,Int.natCast_mul,pow_cast,pow_cast,Int.pow_succ,ei,Int.natCast_add,Int.natCast_mul]
  grind
theorem divide_long (gl : List (Nat × AV)) {A N : Nat} (lA : (Dg.mag (A : Int)).length <= 128) (lN : (Dg.mag (N : Int)).length <= 128) (N0 : 0 < N) (h1 : (Dg.mag (N : Int)).length ≠ 1) :
  Spec Tryz.prog gl 175 [lim (Dg.mag (A : Int)),lim (Dg.mag (N : Int))] (.tup [lim (Dg.mag ((A / N : Nat) : Int)),lim (Dg.mag ((A % N : Nat) : Int))]):=by
 have hD:=Dg.magD (A : Int)
 have hV : Dg.val (Dg.mag (A : Int)) = (A : Int):=Dg.magV (Int.natCast_nonneg A)
 have la : ((irows .u32 (Dg.mag (A : Int))).length : Int) = (Dg.mag (A : Int)).length:=by rw [irows_len]
 obtain ⟨d,d1,d2,sd⟩:=digits_spec gl hD (by omega)
 rw [hV] at d2
 have d2' : A < 2 ^ d:=by rw [<- pow_cast] at d2; omega
 have hn2 : ((irows .u32 (Dg.mag (A : Int))).length : Int).toNat = (Dg.mag (A : Int)).length:=by rw [irows_len]; omega
 refine spec_fn T_ok mixed_ok 0 Tryz.func175 fn_ok175 (by kernel_rfl) ?_
 refine brE (fun g => ?_) (fun _ => ?_)
 ·have g' : ((irows .u32 (Dg.mag (N : Int))).length : Int) = 1:=g
  rw [irows_len] at g'; omega
 refine And.intro (show (0 : Int) <= ((irows .u32 (Dg.mag (A : Int))).length : Int) by omega) (And.intro (Int.le_refl _) (And.intro (show ((irows .u32 (Dg.mag (A : Int))).length : Int) * 4 <= 140737488355328 by omega) (And.intro (show ((irows .u32 (Dg.mag (A : Int))).length : Int) <= maxLen by simp [maxLen]; omega) ?_)))
 first | refine Exists.intro _ (And.intro (sd) ?_) | refine Hn_by (Exists.intro _ (And.intro (sd) ?_))
 have hi0 : w64 ((d : Int) - 1) = (d : Int) - 1:=w64_eq (by omega)
 refine aw_loop (fun q : Bool × Nat × Nat × Nat × List Int => stOf [(0,lim (Dg.mag (A : Int))),(1,lim (Dg.mag (N : Int))),(8,nilOr q.1 q.2.2.2.1),(9,.ms 0 0 (Dg.mag (A : Int)).length),(10,.int .i64 ((q.2.1 : Int) - 1))] [(0,.arr (132,1) (irows .u32 q.2.2.2.2) true)] 1)
  (fun q => q.2.1 <= d ∧ (q.1 = true -> q.2.2.2.1 = 0) ∧ Dg.D q.2.2.2.2 ∧ q.2.2.2.2.length = (Dg.mag (A : Int)).length ∧ A / 2 ^ q.2.1 = q.2.2.1 * N + q.2.2.2.1 ∧ q.2.2.2.1 < N ∧ Dg.val q.2.2.2.2 = ((q.2.2.1 * 2 ^ q.2.1 : Nat) : Int)) (fun q => q.2.1) (true,d,0,0,List.replicate (Dg.mag (A : Int)).length 0)
  ⟨Nat.le_refl _,fun _ => rfl,Dg.D.rep _,by simp,by show A / 2 ^ d = 0 * N + 0; rw [Nat.div_eq_of_lt d2']; omega,N0,by show Dg.val (List.replicate _ 0) = ((0 * 2 ^ d : Nat) : Int); rw [Dg.val_rep,Nat.zero_mul]; rfl⟩
  (le_by ⟨rfl,rfl,rfl,(show AV.ms 0 0 ((irows .u32 (Dg.mag (A : Int))).length : Int).toNat = _ by rw [hn2]),int_eq hi0,trivial⟩ ⟨(show some (Blk.arr (132,1) (List.replicate ((irows .u32 (Dg.mag (A : Int))).length : Int).toNat [AV.int .u32 0]) true) = _ by rw [hn2,irows_rep]),trivial⟩ (Nat.le_refl _)) ?_
 rintro ⟨fl,c,Q,R,o⟩ ⟨hc,hfl,ho,hol,hq,hR,hv⟩ P hP
 simp only at hc hfl ho hol hq hR hv
 cases fl with
 | true =>
  refine br (fun g => ?_) (fun g => ?_)
  ·have hc0 : 0 < c:=by have : (c : Int) - 1 ≥ 0:=g; omega
   obtain ⟨i,rfl⟩ : ∃ i,c = i + 1:=⟨c - 1,by omega⟩
   have ei : ((i + 1 : Nat) : Int) - 1 = (i : Int):=by omega
   have hw2 : w64 (((i + 1 : Nat) : Int) - 1 - 1) = (i : Int) - 1:=by rw [w64_eq (by omega)]; omega
   have B1:=bit_n gl hD hV (i:=i) (by omega)
   rw [<- ei] at B1
   have hA : A / 2 ^ i = 2 * (A / 2 ^ (i + 1)) + A / 2 ^ i % 2:=by
    rw [Nat.pow_succ,<- Nat.div_div_eq_div_mul]; omega
   obtain ⟨b,hb⟩ : ∃ b,b = A / 2 ^ i % 2:=⟨_,rfl⟩
   rw [<- hb] at B1 hA
   have ble : b <= 1:=by rw [hb]; exact Nat.le_of_lt_succ (Nat.mod_lt _ (by decide))
   have D1:=dbl_nat gl (S:=R) ble (len_big (M:=N) (by omega) lN)
   rw [<- nilArg_eq (b:=true) hfl] at D1
   have O:=ord_nat gl (x:=2 * R + b) (y:=N) (len_big (M:=N) (by omega) lN)
   first | refine Exists.intro _ (And.intro (B1) ?_) | refine Hn_by (Exists.intro _ (And.intro (B1) ?_))
   first | refine Exists.intro _ (And.intro (D1) ?_) | refine Hn_by (Exists.intro _ (And.intro (D1) ?_))
   first | refine Exists.intro _ (And.intro (O) ?_) | refine Hn_by (Exists.intro _ (And.intro (O) ?_))
   refine br (fun g2 => ?_) (fun g2 => ?_)
   ·have hge : N <= 2 * R + b:=by
     refine Nat.not_lt.1 fun e => ?_
     have g3 : Dg.cmp ((2 * R + b : Nat) : Int) (N : Int) ≥ 0:=g2
     have:=cmp_neg.2 (show ((2 * R + b : Nat) : Int) < (N : Int) by omega)
     omega
    have MI:=minus_nat gl hge (len_big (M:=N) (by omega) lN)
    have hk : i / 32 < o.length:=by omega
    obtain ⟨x0,x1,x2⟩:=add_bit ho hv hk
    have tq : w64 (Int.tdiv (((i + 1 : Nat) : Int) - 1) 32) = ((i / 32 : Nat) : Int):=by rw [ei]; exact tdiv_nat i (by omega)
    have tr : Int.tmod (((i + 1 : Nat) : Int) - 1) 32 = ((i % 32 : Nat) : Int):=by rw [ei,Int.ofNat_tmod]; rfl
    have hoi : (irows .u32 o)[0 + (w64 (Int.tdiv (((i + 1 : Nat) : Int) - 1) 32)).toNat]? = some [.int .u32 (o.getD (i / 32) 0)]:=irows_at (by rw [tq,Nat.zero_add,Int.toNat_natCast]; exact getD_some hk)
    have p2 : (0 : Int) < 2 ^ (i % 32):=Int.pow_pos (by decide)
    have e3 : u32 (o.getD (i / 32) 0 + u32 (1 * 2 ^ (min (Int.tmod (((i + 1 : Nat) : Int) - 1) 32).toNat IntKind.u32.bits))) = o.getD (i / 32) 0 + 2 ^ (i % 32):=by
     rw [tr,Int.toNat_natCast,Nat.min_eq_left (show i % 32 <= IntKind.u32.bits from Nat.le_of_lt (Nat.mod_lt _ (by decide))),Int.one_mul,u32_in (n:=2 ^ (i % 32)) (by omega),u32_in (by omega)]
    have I0 : 0 <= w64 (Int.tdiv (((i + 1 : Nat) : Int) - 1) 32):=by omega
    have I1 : w64 (Int.tdiv (((i + 1 : Nat) : Int) - 1) 32) < (((Dg.mag (A : Int)).length : Nat) : Int):=by omega
    first | refine Exists.intro _ (And.intro (MI) ?_) | refine Hn_by (Exists.intro _ (And.intro (MI) ?_))
    refine And.intro (by kernel_rfl) ?_
    repeat (first | refine gT ?_ | refine gF ?_ | refine brT ?_ | refine brF ?_ | refine And.intro rfl ?_)
    refine And.intro (by decide) ?_
    repeat (first | refine gT ?_ | refine gF ?_ | refine brT ?_ | refine brF ?_ | refine And.intro rfl ?_)
    refine And.intro (by decide) ?_
    repeat (first | refine gT ?_ | refine gF ?_ | refine brT ?_ | refine brF ?_ | refine And.intro rfl ?_)
    refine And.intro I0 (And.intro I1 (Exists.intro _ (And.intro hoi ?_)))
    repeat (first | refine gT ?_ | refine gF ?_ | refine brT ?_ | refine brF ?_ | refine And.intro rfl ?_)
    refine And.intro (by decide) ?_
    repeat (first | refine gT ?_ | refine gF ?_ | refine brT ?_ | refine brF ?_ | refine And.intro rfl ?_)
    refine And.intro (show 0 <= Int.tmod (((i + 1 : Nat) : Int) - 1) 32 by rw [tr]; omega) ?_
    repeat (first | refine gT ?_ | refine gF ?_ | refine brT ?_ | refine brF ?_ | refine And.intro rfl ?_)
    refine And.intro I0 (And.intro I1 (Exists.intro _ (And.intro hoi ?_)))
    repeat (first | refine gT ?_ | refine gF ?_ | refine brT ?_ | refine brF ?_ | refine And.intro rfl ?_)
    refine hP (false,i,2 * Q + 1,2 * R + b - N,o.set (i / 32) (o.getD (i / 32) 0 + 2 ^ (i % 32))) _ (le_by ⟨rfl,rfl,rfl,rfl,int_eq hw2,trivial⟩ ⟨(show some (Blk.arr (132,1) ((irows .u32 o).set (0 + (w64 (Int.tdiv (((i + 1 : Nat) : Int) - 1) 32)).toNat) [.int .u32 (u32 (o.getD (i / 32) 0 + u32 (1 * 2 ^ (min (Int.tmod (((i + 1 : Nat) : Int) - 1) 32).toNat IntKind.u32.bits))))]) true) = _ by rw [e3,tq,Nat.zero_add,Int.toNat_natCast,irows_set]),trivial⟩ (Nat.le_refl _))
     ⟨by show i <= d; omega,(fun e => by cases e),ho.set (by omega) (by simp only [Dg.B]; omega),by simp [hol],?_,?_,x2⟩ (by show i < i + 1; omega)
    ·show A / 2 ^ i = (2 * Q + 1) * N + (2 * R + b - N)
     rw [hA,hq]
     have : (2 * Q + 1) * N = 2 * (Q * N) + N:=by grind
     omega
    ·show 2 * R + b - N < N
     omega
   ·have hlt : 2 * R + b < N:=by
     refine Nat.not_le.1 fun e => g2 ?_
     show Dg.cmp ((2 * R + b : Nat) : Int) (N : Int) ≥ 0
     unfold Dg.cmp
     rw [if_neg (by omega)]
     split <;> decide
    refine hP (false,i,2 * Q,2 * R + b,o) _ (le_by ⟨rfl,rfl,rfl,rfl,int_eq hw2,trivial⟩ ⟨rfl,trivial⟩ (Nat.le_refl _))
     ⟨by show i <= d; omega,(fun e => by cases e),ho,hol,?_,hlt,?_⟩ (by show i < i + 1; omega)
    ·show A / 2 ^ i = 2 * Q * N + (2 * R + b)
     rw [hA,hq]
     have : 2 * Q * N = 2 * (Q * N):=by grind
     omega
    ·show Dg.val o = ((2 * Q * 2 ^ i : Nat) : Int)
     rw [hv,Nat.pow_succ]
     congr 1
     grind
  ·have hc0 : c = 0:=by have : ¬ (c : Int) - 1 ≥ 0:=g; omega
   subst hc0
   clear hP
   rw [Nat.pow_zero,Nat.div_one] at hq
   have hdm : A / N = Q ∧ A % N = R:=by
    rw [hq,Nat.mul_comm]
    exact ⟨by rw [Nat.mul_add_div (by omega),Nat.div_eq_of_lt hR,Nat.add_zero],by rw [Nat.mul_add_mod,Nat.mod_eq_of_lt hR]⟩
   rw [hdm.1,hdm.2]
   have hts:=rtrim_spec gl o (by omega)
   rw [Dg.trim_mag ho,hv,Nat.pow_zero,Nat.mul_one] at hts
   have e6 : ((irows .u32 o).drop 0).take (Dg.mag (A : Int)).length = irows .u32 o:=by
    rw [List.drop_zero,List.take_of_length_le (by rw [irows_len]; omega)]
   rw [show lim o = AV.sl (irows .u32 o) from rfl,<- e6] at hts
   refine And.intro (show 0 + (Dg.mag (A : Int)).length <= (irows .u32 o).length by rw [irows_len]; omega) ?_
   refine Exists.intro _ (And.intro hts ?_)
   rw [hfl rfl,mag0]
   exact And.intro (Or.inr rfl) rfl
 | false =>
  refine br (fun g => ?_) (fun g => ?_)
  ·have hc0 : 0 < c:=by have : (c : Int) - 1 ≥ 0:=g; omega
   obtain ⟨i,rfl⟩ : ∃ i,c = i + 1:=⟨c - 1,by omega⟩
   have ei : ((i + 1 : Nat) : Int) - 1 = (i : Int):=by omega
   have hw2 : w64 (((i + 1 : Nat) : Int) - 1 - 1) = (i : Int) - 1:=by rw [w64_eq (by omega)]; omega
   have B1:=bit_n gl hD hV (i:=i) (by omega)
   rw [<- ei] at B1
   have hA : A / 2 ^ i = 2 * (A / 2 ^ (i + 1)) + A / 2 ^ i % 2:=by
    rw [Nat.pow_succ,<- Nat.div_div_eq_div_mul]; omega
   obtain ⟨b,hb⟩ : ∃ b,b = A / 2 ^ i % 2:=⟨_,rfl⟩
   rw [<- hb] at B1 hA
   have ble : b <= 1:=by rw [hb]; exact Nat.le_of_lt_succ (Nat.mod_lt _ (by decide))
   have D1:=dbl_nat gl (S:=R) ble (len_big (M:=N) (by omega) lN)
   rw [<- nilArg_eq (b:=false) hfl] at D1
   have O:=ord_nat gl (x:=2 * R + b) (y:=N) (len_big (M:=N) (by omega) lN)
   first | refine Exists.intro _ (And.intro (B1) ?_) | refine Hn_by (Exists.intro _ (And.intro (B1) ?_))
   first | refine Exists.intro _ (And.intro (D1) ?_) | refine Hn_by (Exists.intro _ (And.intro (D1) ?_))
   first | refine Exists.intro _ (And.intro (O) ?_) | refine Hn_by (Exists.intro _ (And.intro (O) ?_))
   refine br (fun g2 => ?_) (fun g2 => ?_)
   ·have hge : N <= 2 * R + b:=by
     refine Nat.not_lt.1 fun e => ?_
     have g3 : Dg.cmp ((2 * R + b : Nat) : Int) (N : Int) ≥ 0:=g2
     have:=cmp_neg.2 (show ((2 * R + b : Nat) : Int) < (N : Int) by omega)
     omega
    have MI:=minus_nat gl hge (len_big (M:=N) (by omega) lN)
    have hk : i / 32 < o.length:=by omega
    obtain ⟨x0,x1,x2⟩:=add_bit ho hv hk
    have tq : w64 (Int.tdiv (((i + 1 : Nat) : Int) - 1) 32) = ((i / 32 : Nat) : Int):=by rw [ei]; exact tdiv_nat i (by omega)
    have tr : Int.tmod (((i + 1 : Nat) : Int) - 1) 32 = ((i % 32 : Nat) : Int):=by rw [ei,Int.ofNat_tmod]; rfl
    have hoi : (irows .u32 o)[0 + (w64 (Int.tdiv (((i + 1 : Nat) : Int) - 1) 32)).toNat]? = some [.int .u32 (o.getD (i / 32) 0)]:=irows_at (by rw [tq,Nat.zero_add,Int.toNat_natCast]; exact getD_some hk)
    have p2 : (0 : Int) < 2 ^ (i % 32):=Int.pow_pos (by decide)
    have e3 : u32 (o.getD (i / 32) 0 + u32 (1 * 2 ^ (min (Int.tmod (((i + 1 : Nat) : Int) - 1) 32).toNat IntKind.u32.bits))) = o.getD (i / 32) 0 + 2 ^ (i % 32):=by
     rw [tr,Int.toNat_natCast,Nat.min_eq_left (show i % 32 <= IntKind.u32.bits from Nat.le_of_lt (Nat.mod_lt _ (by decide))),Int.one_mul,u32_in (n:=2 ^ (i % 32)) (by omega),u32_in (by omega)]
    have I0 : 0 <= w64 (Int.tdiv (((i + 1 : Nat) : Int) - 1) 32):=by omega
    have I1 : w64 (Int.tdiv (((i + 1 : Nat) : Int) - 1) 32) < (((Dg.mag (A : Int)).length : Nat) : Int):=by omega
    first | refine Exists.intro _ (And.intro (MI) ?_) | refine Hn_by (Exists.intro _ (And.intro (MI) ?_))
    refine And.intro (by kernel_rfl) ?_
    repeat (first | refine gT ?_ | refine gF ?_ | refine brT ?_ | refine brF ?_ | refine And.intro rfl ?_)
    refine And.intro (by decide) ?_
    repeat (first | refine gT ?_ | refine gF ?_ | refine brT ?_ | refine brF ?_ | refine And.intro rfl ?_)
    refine And.intro (by decide) ?_
    repeat (first | refine gT ?_ | refine gF ?_ | refine brT ?_ | refine brF ?_ | refine And.intro rfl ?_)
    refine And.intro I0 (And.intro I1 (Exists.intro _ (And.intro hoi ?_)))
    repeat (first | refine gT ?_ | refine gF ?_ | refine brT ?_ | refine brF ?_ | refine And.intro rfl ?_)
    refine And.intro (by decide) ?_
    repeat (first | refine gT ?_ | refine gF ?_ | refine brT ?_ | refine brF ?_ | refine And.intro rfl ?_)
    refine And.intro (show 0 <= Int.tmod (((i + 1 : Nat) : Int) - 1) 32 by rw [tr]; omega) ?_
    repeat (first | refine gT ?_ | refine gF ?_ | refine brT ?_ | refine brF ?_ | refine And.intro rfl ?_)
    refine And.intro I0 (And.intro I1 (Exists.intro _ (And.intro hoi ?_)))
    repeat (first | refine gT ?_ | refine gF ?_ | refine brT ?_ | refine brF ?_ | refine And.intro rfl ?_)
    refine hP (false,i,2 * Q + 1,2 * R + b - N,o.set (i / 32) (o.getD (i / 32) 0 + 2 ^ (i % 32))) _ (le_by ⟨rfl,rfl,rfl,rfl,int_eq hw2,trivial⟩ ⟨(show some (Blk.arr (132,1) ((irows .u32 o).set (0 + (w64 (Int.tdiv (((i + 1 : Nat) : Int) - 1) 32)).toNat) [.int .u32 (u32 (o.getD (i / 32) 0 + u32 (1 * 2 ^ (min (Int.tmod (((i + 1 : Nat) : Int) - 1) 32).toNat IntKind.u32.bits))))]) true) = _ by rw [e3,tq,Nat.zero_add,Int.toNat_natCast,irows_set]),trivial⟩ (Nat.le_refl _))
     ⟨by show i <= d; omega,(fun e => by cases e),ho.set (by omega) (by simp only [Dg.B]; omega),by simp [hol],?_,?_,x2⟩ (by show i < i + 1; omega)
    ·show A / 2 ^ i = (2 * Q + 1) * N + (2 * R + b - N)
     rw [hA,hq]
     have : (2 * Q + 1) * N = 2 * (Q * N) + N:=by grind
     omega
    ·show 2 * R + b - N < N
     omega
   ·have hlt : 2 * R + b < N:=by
     refine Nat.not_le.1 fun e => g2 ?_
     show Dg.cmp ((2 * R + b : Nat) : Int) (N : Int) ≥ 0
     unfold Dg.cmp
     rw [if_neg (by omega)]
     split <;> decide
    refine hP (false,i,2 * Q,2 * R + b,o) _ (le_by ⟨rfl,rfl,rfl,rfl,int_eq hw2,trivial⟩ ⟨rfl,trivial⟩ (Nat.le_refl _))
     ⟨by show i <= d; omega,(fun e => by cases e),ho,hol,?_,hlt,?_⟩ (by show i < i + 1; omega)
    ·show A / 2 ^ i = 2 * Q * N + (2 * R + b)
     rw [hA,hq]
     have : 2 * Q * N = 2 * (Q * N):=by grind
     omega
    ·show Dg.val o = ((2 * Q * 2 ^ i : Nat) : Int)
     rw [hv,Nat.pow_succ]
     congr 1
     grind
  ·have hc0 : c = 0:=by have : ¬ (c : Int) - 1 ≥ 0:=g; omega
   subst hc0
   clear hP
   rw [Nat.pow_zero,Nat.div_one] at hq
   have hdm : A / N = Q ∧ A % N = R:=by
    rw [hq,Nat.mul_comm]
    exact ⟨by rw [Nat.mul_add_div (by omega),Nat.div_eq_of_lt hR,Nat.add_zero],by rw [Nat.mul_add_mod,Nat.mod_eq_of_lt hR]⟩
   rw [hdm.1,hdm.2]
   have hts:=rtrim_spec gl o (by omega)
   rw [Dg.trim_mag ho,hv,Nat.pow_zero,Nat.mul_one] at hts
   have e6 : ((irows .u32 o).drop 0).take (Dg.mag (A : Int)).length = irows .u32 o:=by
    rw [List.drop_zero,List.take_of_length_le (by rw [irows_len]; omega)]
   rw [show lim o = AV.sl (irows .u32 o) from rfl,<- e6] at hts
   refine And.intro (show 0 + (Dg.mag (A : Int)).length <= (irows .u32 o).length by rw [irows_len]; omega) ?_
   refine Exists.intro _ (And.intro hts ?_)
   exact And.intro (Or.inr rfl) rfl
theorem rdivide_int (gl : List (Nat × AV)) {x y : Int} (hx : 0 <= x) (hy : 0 < y) (lx : (Dg.mag x).length <= 128) (ly : (Dg.mag y).length <= 128) :
  Spec Tryz.prog gl 175 [lim (Dg.mag x),lim (Dg.mag y)] (.tup [lim (Dg.mag (x / y)),lim (Dg.mag (x % y))]):=by
 obtain ⟨A,rfl⟩:=Int.eq_ofNat_of_zero_le hx
 obtain ⟨N,rfl⟩:=Int.eq_ofNat_of_zero_le (Int.le_of_lt hy)
 by_cases h1 : (Dg.mag (N : Int)).length = 1
 ·have lt : (N : Int) < 4294967296:=by
   have a:=Dg.val_lt (Dg.magD (N : Int))
   rw [Dg.magV (Int.natCast_nonneg N),h1] at a
   exact a
  have em:=mag_limb hy lt
  have sh:=short_spec gl (Dg.magD (A : Int)) (d:=(N : Int)) ⟨hy,lt⟩ (by omega)
  rw [Dg.magV (Int.natCast_nonneg A)] at sh
  have m0:=Int.emod_nonneg (A : Int) (show (N : Int) ≠ 0 by omega)
  have m1:=Int.emod_lt_of_pos (A : Int) hy
  have t0:=rtrim_spec gl [(A : Int) % (N : Int)] (by simp)
  have e0 : Dg.trim [(A : Int) % (N : Int)] = Dg.mag ((A : Int) % (N : Int)):=by
   rw [Dg.trim_mag (Dg.D.cons.2 ⟨⟨m0,by simp only [Dg.B]; omega⟩,Dg.D.nil⟩)]
   rw [show Dg.val [(A : Int) % (N : Int)] = (A : Int) % (N : Int) by simp only [Dg.val]; omega]
  rw [e0] at t0
  rw [em]
  exact rdivide_walk gl sh t0
 ·have:=divide_long gl (A:=A) (N:=N) lx ly (by omega) h1
  rw [Int.natCast_ediv,Int.natCast_emod] at this
  exact this
theorem rdmod_walk (gl : List (Nat × AV)) {an : Bool} {al bl q0 r0 q1 r1 ql rl : List Int} {qn rn : Bool} (v1 : Spec Tryz.prog gl 111 [mkI an al] (.bool true)) (v2 : Spec Tryz.prog gl 111 [mkI false bl] (.bool true)) (hb : ¬ ((irows .u32 bl).length : Int) = 0)
  (s1 : Spec Tryz.prog gl 175 [lim al,lim bl] (.tup [lim q0,lim r0])) (hn : an = true -> ((irows .u32 r0).length : Int) > 0 -> Spec Tryz.prog gl 152 [lim q0,lim [1]] (lim q1) ∧ Spec Tryz.prog gl 156 [lim bl,lim r0] (lim r1))
  (hz : ¬ (an = true ∧ ((irows .u32 r0).length : Int) > 0) -> q1 = q0 ∧ r1 = r0)
  (s3 : Spec Tryz.prog gl 151 [.bool an,lim q1] (.tup [mkI qn ql,.int .i64 0])) (s4 : Spec Tryz.prog gl 151 [.bool false,lim r1] (.tup [mkI rn rl,.int .i64 0])) :
  Spec Tryz.prog gl 163 [mkI an al,mkI false bl] (.tup [mkI qn ql,mkI rn rl,.int .i64 0]):=by
 cases an with
 | false =>
  obtain ⟨rfl,rfl⟩:=hz (by simp)
  refine spec_fn T_ok mixed_ok 0 Tryz.func163 fn_ok163 (by kernel_rfl) ?_
  first | refine Exists.intro _ (And.intro (v1) ?_) | refine Hn_by (Exists.intro _ (And.intro (v1) ?_))
  repeat (first | refine gT ?_ | refine gF ?_ | refine brT ?_ | refine brF ?_)
  first | refine Exists.intro _ (And.intro (v2) ?_) | refine Hn_by (Exists.intro _ (And.intro (v2) ?_))
  repeat (first | refine gT ?_ | refine gF ?_ | refine brT ?_ | refine brF ?_)
  refine brE (fun g => absurd g hb) (fun _ => ?_)
  first | refine Exists.intro _ (And.intro (s1) ?_) | refine Hn_by (Exists.intro _ (And.intro (s1) ?_))
  repeat (first | refine gT ?_ | refine gF ?_ | refine brT ?_ | refine brF ?_)
  first | refine Exists.intro _ (And.intro (s3) ?_) | refine Hn_by (Exists.intro _ (And.intro (s3) ?_))
  repeat (first | refine gT ?_ | refine gF ?_ | refine brT ?_ | refine brF ?_)
  first | refine Exists.intro _ (And.intro (s4) ?_) | refine Hn_by (Exists.intro _ (And.intro (s4) ?_))
  refine And.intro (by kernel_rfl) ?_
  repeat (first | refine gT ?_ | refine gF ?_ | refine brT ?_ | refine brF ?_ | refine And.intro rfl ?_)
  exact And.intro (Or.inr rfl) rfl
 | true =>
  by_cases hr : ((irows .u32 r0).length : Int) > 0
  ·obtain ⟨d1,d2⟩:=hn rfl hr
   refine spec_fn T_ok mixed_ok 0 Tryz.func163 fn_ok163 (by kernel_rfl) ?_
   first | refine Exists.intro _ (And.intro (v1) ?_) | refine Hn_by (Exists.intro _ (And.intro (v1) ?_))
   repeat (first | refine gT ?_ | refine gF ?_ | refine brT ?_ | refine brF ?_)
   first | refine Exists.intro _ (And.intro (v2) ?_) | refine Hn_by (Exists.intro _ (And.intro (v2) ?_))
   repeat (first | refine gT ?_ | refine gF ?_ | refine brT ?_ | refine brF ?_)
   refine brE (fun g => absurd g hb) (fun _ => ?_)
   first | refine Exists.intro _ (And.intro (s1) ?_) | refine Hn_by (Exists.intro _ (And.intro (s1) ?_))
   refine brT ?_
   refine brT ?_
   refine brT ?_
   refine br (fun _ => ?_) (fun g => absurd hr g)
   refine And.intro (Nat.le_refl 1) (Exists.intro _ (And.intro d1 ?_))
   first | refine Exists.intro _ (And.intro (d2) ?_) | refine Hn_by (Exists.intro _ (And.intro (d2) ?_))
   first | refine Exists.intro _ (And.intro (s3) ?_) | refine Hn_by (Exists.intro _ (And.intro (s3) ?_))
   repeat (first | refine gT ?_ | refine gF ?_ | refine brT ?_ | refine brF ?_)
   first | refine Exists.intro _ (And.intro (s4) ?_) | refine Hn_by (Exists.intro _ (And.intro (s4) ?_))
   refine And.intro (by kernel_rfl) ?_
   repeat (first | refine gT ?_ | refine gF ?_ | refine brT ?_ | refine brF ?_ | refine And.intro rfl ?_)
   exact And.intro (Or.inr rfl) rfl
  ·obtain ⟨rfl,rfl⟩:=hz (fun g => hr g.2)
   refine spec_fn T_ok mixed_ok 0 Tryz.func163 fn_ok163 (by kernel_rfl) ?_
   first | refine Exists.intro _ (And.intro (v1) ?_) | refine Hn_by (Exists.intro _ (And.intro (v1) ?_))
   repeat (first | refine gT ?_ | refine gF ?_ | refine brT ?_ | refine brF ?_)
   first | refine Exists.intro _ (And.intro (v2) ?_) | refine Hn_by (Exists.intro _ (And.intro (v2) ?_))
   repeat (first | refine gT ?_ | refine gF ?_ | refine brT ?_ | refine brF ?_)
   refine brE (fun g => absurd g hb) (fun _ => ?_)
   first | refine Exists.intro _ (And.intro (s1) ?_) | refine Hn_by (Exists.intro _ (And.intro (s1) ?_))
   refine brT ?_
   refine brT ?_
   refine brT ?_
   refine br (fun g => absurd g hr) (fun _ => ?_)
   first | refine Exists.intro _ (And.intro (s3) ?_) | refine Hn_by (Exists.intro _ (And.intro (s3) ?_))
   repeat (first | refine gT ?_ | refine gF ?_ | refine brT ?_ | refine brF ?_)
   first | refine Exists.intro _ (And.intro (s4) ?_) | refine Hn_by (Exists.intro _ (And.intro (s4) ?_))
   refine And.intro (by kernel_rfl) ?_
   repeat (first | refine gT ?_ | refine gF ?_ | refine brT ?_ | refine brF ?_ | refine And.intro rfl ?_)
   exact And.intro (Or.inr rfl) rfl
theorem rdmod_int (gl : List (Nat × AV)) {a b : Int} (ha : Fits a) (hb : Fits b) (h0 : 0 < b) : Spec Tryz.prog gl 163 [mkZ a,mkZ b] (.tup [mkZ (a / b),mkZ (a % b),.int .i64 0]):=by
 have v1:=rvalid_int gl ha
 have v2:=rvalid_int gl hb
 rw [mkZ_nn (a:=b) (by omega)] at v2 ⊢
 have fq : Fits (a / b):=fits_le (quo_abs h0) ha
 have m0:=Int.emod_nonneg a (show b ≠ 0 by omega)
 have m1:=Int.emod_lt_of_pos a h0
 have fr : Fits (a % b):=fits_le (by rw [fits_nn m0,fits_nn (a:=b) (by omega)]; omega) hb
 have s1:=rdivide_int gl (az_nn a) h0 ha (by have:=fits_len hb; rwa [fits_nn (a:=b) (by omega)] at this)
 have hbl : ¬ ((irows .u32 (Dg.mag b)).length : Int) = 0:=by
  have:=(len_pos_mag (x:=b) (by omega)).2 h0
  omega
 obtain ⟨c1,c2,c3⟩:=div_cases (a:=a) h0
 have q0:=Int.ediv_nonneg (az_nn a) (Int.le_of_lt h0)
 have r0:=Int.emod_nonneg (az a) (show b ≠ 0 by omega)
 have r1:=Int.emod_lt_of_pos (az a) h0
 have hlp:=len_pos_mag r0
 by_cases h : a < 0
 ·have hd:=decide_eq_true h
  by_cases h2 : az a % b = 0
  ·obtain ⟨e1,e2⟩:=c2 h h2
   have s3:=rfit_int gl (neg:=true) q0 (by unfold sg; rw [if_pos rfl]; exact e1.symm) fq
   have s4:=rfit_int gl (neg:=false) r0 (by unfold sg; rw [if_neg (by decide),h2]; exact e2.symm) fr
   unfold mkZ at v1 s3 s4 ⊢
   rw [hd] at v1 ⊢
   exact rdmod_walk gl v1 v2 hbl s1 (fun _ g => absurd (hlp.1 g) (by omega)) (fun _ => ⟨rfl,rfl⟩) s3 s4
  ·obtain ⟨e1,e2⟩:=c3 h h2
   have hD1 : Dg.D [1]:=Dg.D.cons.2 ⟨by decide,Dg.D.nil⟩
   have su:=plus_spec gl (Dg.magD (az a / b)) hD1 (by
    have:=mag_le q0 (show az a / b <= az a from Int.ediv_le_self b (az_nn a))
    have:=fits_len ha
    omega) (by simp)
   rw [Dg.magV q0,show Dg.val [1] = 1 by simp [Dg.val]] at su
   have di:=minus_spec gl (Dg.magD b) (Dg.magD (az a % b)) (by have:=fits_len hb; rw [fits_nn (a:=b) (by omega)] at this; omega) (mag_le r0 (Int.le_of_lt r1)) (by rw [Dg.magV (n:=b) (by omega),Dg.magV r0]; omega)
   rw [Dg.magV (n:=b) (by omega),Dg.magV r0] at di
   have s3:=rfit_int gl (neg:=true) (x:=az a / b + 1) (by omega) (by unfold sg; rw [if_pos rfl]; exact e1.symm) fq
   have s4:=rfit_int gl (neg:=false) (x:=b - az a % b) (by omega) (by unfold sg; rw [if_neg (by decide)]; exact e2.symm) fr
   unfold mkZ at v1 s3 s4 ⊢
   rw [hd] at v1 ⊢
   exact rdmod_walk gl v1 v2 hbl s1 (fun _ _ => ⟨su,di⟩) (fun g => absurd ⟨rfl,hlp.2 (by omega)⟩ g) s3 s4
 ·have hd:=decide_eq_false h
  obtain ⟨e1,e2⟩:=c1 (by omega)
  have s3:=rfit_int gl (neg:=false) q0 (by unfold sg; rw [if_neg (by decide)]; exact e1.symm) fq
  have s4:=rfit_int gl (neg:=false) r0 (by unfold sg; rw [if_neg (by decide)]; exact e2.symm) fr
  unfold mkZ at v1 s3 s4 ⊢
  rw [hd] at v1 ⊢
  exact rdmod_walk gl v1 v2 hbl s1 (fun g => absurd g (by decide)) (fun _ => ⟨rfl,rfl⟩) s3 s4
end Ab
end
section
open Go Go.Proofs
namespace Ab
set_option maxRecDepth 100000
set_option maxHeartbeats 1000000
def vB (neg : Bool) (l : List Int) : Bool:=match l.getLast? with | none => !neg | some x => x != 0
theorem vB_nil (neg : Bool) : vB neg [] = !neg:=rfl
theorem vB_last {neg : Bool} {l : List Int} (h : l ≠ []) : vB neg l = (l.getD (l.length - 1) 0 != 0):=by
 have hp:=List.length_pos_iff.2 h
 unfold vB
 rw [List.getLast?_eq_getElem?,getD_some (show l.length - 1 < l.length by omega)]
theorem ivalid_any (gl : List (Nat × AV)) (neg : Bool) (l : List Int) (hl : l.length <= 128) : Spec Tryz.prog gl 90 [mkI neg l] (.bool (vB neg l)):=by
 by_cases h : l = []
 ·subst h
  rw [vB_nil]
  refine spec_fn T_ok mixed_ok 0 Tryz.func90 fn_ok90 (by kernel_rfl) ?_
  repeat (first | refine gT ?_ | refine gF ?_ | refine brT ?_ | refine brF ?_)
  exact And.intro (Or.inr rfl) rfl
 ·have hp:=List.length_pos_iff.2 h
  have ll : ((irows .u32 l).length : Int) = l.length:=by rw [irows_len]
  have hw : w64 (((irows .u32 l).length : Int) - 1) = ((l.length - 1 : Nat) : Int):=by rw [ll,w64_eq (by omega)]; omega
  have ix : (irows .u32 l)[(w64 (((irows .u32 l).length : Int) - 1)).toNat]? = some [.int .u32 (l.getD (l.length - 1) 0)]:=irows_at (by rw [hw,Int.toNat_natCast]; exact getD_some (by omega))
  rw [vB_last h]
  refine spec_fn T_ok mixed_ok 0 Tryz.func90 fn_ok90 (by kernel_rfl) ?_
  refine brE (fun g => ?_) (fun _ => ?_)
  ·have g' : ((irows .u32 l).length : Int) = 0:=g
   omega
  refine br (fun _ => ?_) (fun g => ?_)
  ·repeat (first | refine gT ?_ | refine gF ?_ | refine brT ?_ | refine brF ?_)
   refine And.intro (show 0 <= w64 (((irows .u32 l).length : Int) - 1) by omega) (Exists.intro _ (And.intro ix ?_))
   repeat (first | refine gT ?_ | refine gF ?_ | refine brT ?_ | refine brF ?_)
   exact And.intro (Or.inr rfl) rfl
  ·have g' : ¬ ((irows .u32 l).length : Int) <= 128:=g
   omega
theorem rvalid_any (gl : List (Nat × AV)) (neg : Bool) (l : List Int) (hl : l.length <= 128) : Spec Tryz.prog gl 111 [mkI neg l] (.bool (vB neg l)):=by
 by_cases h : l = []
 ·subst h
  rw [vB_nil]
  refine spec_fn T_ok mixed_ok 0 Tryz.func111 fn_ok111 (by kernel_rfl) ?_
  repeat (first | refine gT ?_ | refine gF ?_ | refine brT ?_ | refine brF ?_)
  exact And.intro (Or.inr rfl) rfl
 ·have hp:=List.length_pos_iff.2 h
  have ll : ((irows .u32 l).length : Int) = l.length:=by rw [irows_len]
  have hw : w64 (((irows .u32 l).length : Int) - 1) = ((l.length - 1 : Nat) : Int):=by rw [ll,w64_eq (by omega)]; omega
  have ix : (irows .u32 l)[(w64 (((irows .u32 l).length : Int) - 1)).toNat]? = some [.int .u32 (l.getD (l.length - 1) 0)]:=irows_at (by rw [hw,Int.toNat_natCast]; exact getD_some (by omega))
  rw [vB_last h]
  refine spec_fn T_ok mixed_ok 0 Tryz.func111 fn_ok111 (by kernel_rfl) ?_
  refine br (fun g => ?_) (fun _ => ?_)
  ·have g' : ((irows .u32 l).length : Int) > 128:=g
   omega
  refine brE (fun g => ?_) (fun _ => ?_)
  ·have g' : ((irows .u32 l).length : Int) = 0:=g
   omega
  refine And.intro (show 0 <= w64 (((irows .u32 l).length : Int) - 1) by omega) (Exists.intro _ (And.intro ix ?_))
  exact And.intro (Or.inr rfl) rfl
theorem vB_z {neg : Bool} {l : List Int} (hD : Dg.D l) (hl : l.length <= 128) (h : vB neg l = true) : ∃ z,neg = decide (z < 0) ∧ l = Dg.mag (az z) ∧ Fits z:=by
 by_cases h0 : l = []
 ·subst h0
  have hn : neg = false:=by rw [vB_nil] at h; simpa using h
  exact ⟨0,by rw [hn]; rfl,((mag_nil (az_nn 0)).2 rfl).symm,fits_i64 (by decide) (by decide)⟩
 ·have hp:=List.length_pos_iff.2 h0
  rw [vB_last h0] at h
  have hc : Dg.Canon l:=by
   intro x hx
   rw [List.getLast?_eq_getElem?,getD_some (show l.length - 1 < l.length by omega)] at hx
   cases hx
   simpa using h
  have em:=Dg.mag_of hD hc
  have v0:=Dg.val_pos hD hc h0
  have ea : az (sg neg (Dg.val l)) = Dg.val l:=by unfold sg az; split <;> omega
  refine ⟨sg neg (Dg.val l),?_,by rw [ea]; exact em,by unfold Fits; rw [ea,<- em]; exact hl⟩
  unfold sg
  cases neg with
  | true => rw [if_pos rfl]; exact (decide_eq_true (by omega)).symm
  | false => rw [if_neg (by decide)]; exact (decide_eq_false (by omega)).symm
theorem risone_spec (gl : List (Nat × AV)) (neg : Bool) (l : List Int) : Spec Tryz.prog gl 114 [mkI neg l] (.bool (bif neg then false else decide (l = [1]))):=by
 cases neg with
 | true =>
  refine spec_fn T_ok mixed_ok 0 Tryz.func114 fn_ok114 (by kernel_rfl) ?_
  repeat (first | refine gT ?_ | refine gF ?_ | refine brT ?_ | refine brF ?_)
  exact And.intro (Or.inr rfl) rfl
 | false =>
  match l with
  | [] =>
   refine spec_fn T_ok mixed_ok 0 Tryz.func114 fn_ok114 (by kernel_rfl) ?_
   repeat (first | refine gT ?_ | refine gF ?_ | refine brT ?_ | refine brF ?_)
   exact And.intro (Or.inr rfl) rfl
  | [x] =>
   refine spec_fn T_ok mixed_ok 0 Tryz.func114 fn_ok114 (by kernel_rfl) ?_
   repeat (first | refine gT ?_ | refine gF ?_ | refine brT ?_ | refine brF ?_)
   refine And.intro (by decide) (Exists.intro _ (And.intro rfl ?_))
   repeat (first | refine gT ?_ | refine gF ?_ | refine brT ?_ | refine brF ?_)
   exact And.intro (Or.inr rfl) (congrArg AV.bool (one_ans x))
  | x :: y :: l =>
   have e : decide (x :: y :: l = [1]) = false:=decide_eq_false (by simp)
   rw [e]
   refine spec_fn T_ok mixed_ok 0 Tryz.func114 fn_ok114 (by kernel_rfl) ?_
   repeat (first | refine gT ?_ | refine gF ?_ | refine brT ?_ | refine brF ?_)
   exact And.intro (Or.inr rfl) rfl
theorem qv_num (gl : List (Nat × AV)) {nn dn : Bool} {nl dl : List Int} (s1 : Spec Tryz.prog gl 90 [mkI nn nl] (.bool false)) : Spec Tryz.prog gl 64 [mkQ nn nl dn dl] (.bool false):=by
 refine spec_fn T_ok mixed_ok 1 Tryz.func64 fn_ok64 (by kernel_rfl) ?_
 first | refine Exists.intro _ (And.intro (s1) ?_) | refine Hn_by (Exists.intro _ (And.intro (s1) ?_))
 repeat (first | refine gT ?_ | refine gF ?_ | refine brT ?_ | refine brF ?_)
 exact And.intro (Or.inr rfl) rfl
theorem qv_den (gl : List (Nat × AV)) {nn dn : Bool} {nl dl : List Int} (s1 : Spec Tryz.prog gl 90 [mkI nn nl] (.bool true)) (s2 : Spec Tryz.prog gl 90 [mkI dn dl] (.bool false)) : Spec Tryz.prog gl 64 [mkQ nn nl dn dl] (.bool false):=by
 refine spec_fn T_ok mixed_ok 1 Tryz.func64 fn_ok64 (by kernel_rfl) ?_
 first | refine Exists.intro _ (And.intro (s1) ?_) | refine Hn_by (Exists.intro _ (And.intro (s1) ?_))
 repeat (first | refine gT ?_ | refine gF ?_ | refine brT ?_ | refine brF ?_)
 first | refine Exists.intro _ (And.intro (s2) ?_) | refine Hn_by (Exists.intro _ (And.intro (s2) ?_))
 repeat (first | refine gT ?_ | refine gF ?_ | refine brT ?_ | refine brF ?_)
 exact And.intro (Or.inr rfl) rfl
theorem qv_neg (gl : List (Nat × AV)) {nn : Bool} {nl dl : List Int} (s1 : Spec Tryz.prog gl 90 [mkI nn nl] (.bool true)) (s2 : Spec Tryz.prog gl 90 [mkI true dl] (.bool true)) : Spec Tryz.prog gl 64 [mkQ nn nl true dl] (.bool false):=by
 refine spec_fn T_ok mixed_ok 1 Tryz.func64 fn_ok64 (by kernel_rfl) ?_
 first | refine Exists.intro _ (And.intro (s1) ?_) | refine Hn_by (Exists.intro _ (And.intro (s1) ?_))
 repeat (first | refine gT ?_ | refine gF ?_ | refine brT ?_ | refine brF ?_)
 first | refine Exists.intro _ (And.intro (s2) ?_) | refine Hn_by (Exists.intro _ (And.intro (s2) ?_))
 repeat (first | refine gT ?_ | refine gF ?_ | refine brT ?_ | refine brF ?_)
 exact And.intro (Or.inr rfl) rfl
theorem qv_zero (gl : List (Nat × AV)) {nn : Bool} {nl dl : List Int} (s1 : Spec Tryz.prog gl 90 [mkI nn nl] (.bool true)) (s2 : Spec Tryz.prog gl 90 [mkI false dl] (.bool true)) (s3 : Spec Tryz.prog gl 91 [mkI false dl] (.bool true)) : Spec Tryz.prog gl 64 [mkQ nn nl false dl] (.bool false):=by
 refine spec_fn T_ok mixed_ok 1 Tryz.func64 fn_ok64 (by kernel_rfl) ?_
 first | refine Exists.intro _ (And.intro (s1) ?_) | refine Hn_by (Exists.intro _ (And.intro (s1) ?_))
 repeat (first | refine gT ?_ | refine gF ?_ | refine brT ?_ | refine brF ?_)
 first | refine Exists.intro _ (And.intro (s2) ?_) | refine Hn_by (Exists.intro _ (And.intro (s2) ?_))
 repeat (first | refine gT ?_ | refine gF ?_ | refine brT ?_ | refine brF ?_)
 first | refine Exists.intro _ (And.intro (s3) ?_) | refine Hn_by (Exists.intro _ (And.intro (s3) ?_))
 repeat (first | refine gT ?_ | refine gF ?_ | refine brT ?_ | refine brF ?_)
 exact And.intro (Or.inr rfl) rfl
theorem qv_gcd (gl : List (Nat × AV)) {nn : Bool} {nl dl g : List Int} {b b2 : Bool} (s1 : Spec Tryz.prog gl 90 [mkI nn nl] (.bool true)) (s2 : Spec Tryz.prog gl 90 [mkI false dl] (.bool true)) (s3 : Spec Tryz.prog gl 91 [mkI false dl] (.bool false))
  (s4 : Spec Tryz.prog gl 92 [mkI false dl] (.bool b)) (s5 : Spec Tryz.prog gl 93 [mkI nn nl,mkI false dl] (.tup [mkI false g,.int .i64 0])) (s6 : Spec Tryz.prog gl 92 [mkI false g] (.bool b2)) (hb : b = true -> b2 = true) :
  Spec Tryz.prog gl 64 [mkQ nn nl false dl] (.bool b2):=by
 cases b with
 | true =>
  rw [hb rfl]
  refine spec_fn T_ok mixed_ok 1 Tryz.func64 fn_ok64 (by kernel_rfl) ?_
  first | refine Exists.intro _ (And.intro (s1) ?_) | refine Hn_by (Exists.intro _ (And.intro (s1) ?_))
  repeat (first | refine gT ?_ | refine gF ?_ | refine brT ?_ | refine brF ?_)
  first | refine Exists.intro _ (And.intro (s2) ?_) | refine Hn_by (Exists.intro _ (And.intro (s2) ?_))
  repeat (first | refine gT ?_ | refine gF ?_ | refine brT ?_ | refine brF ?_)
  first | refine Exists.intro _ (And.intro (s3) ?_) | refine Hn_by (Exists.intro _ (And.intro (s3) ?_))
  repeat (first | refine gT ?_ | refine gF ?_ | refine brT ?_ | refine brF ?_)
  first | refine Exists.intro _ (And.intro (s4) ?_) | refine Hn_by (Exists.intro _ (And.intro (s4) ?_))
  repeat (first | refine gT ?_ | refine gF ?_ | refine brT ?_ | refine brF ?_)
  exact And.intro (Or.inr rfl) rfl
 | false =>
  refine spec_fn T_ok mixed_ok 1 Tryz.func64 fn_ok64 (by kernel_rfl) ?_
  first | refine Exists.intro _ (And.intro (s1) ?_) | refine Hn_by (Exists.intro _ (And.intro (s1) ?_))
  repeat (first | refine gT ?_ | refine gF ?_ | refine brT ?_ | refine brF ?_)
  first | refine Exists.intro _ (And.intro (s2) ?_) | refine Hn_by (Exists.intro _ (And.intro (s2) ?_))
  repeat (first | refine gT ?_ | refine gF ?_ | refine brT ?_ | refine brF ?_)
  first | refine Exists.intro _ (And.intro (s3) ?_) | refine Hn_by (Exists.intro _ (And.intro (s3) ?_))
  repeat (first | refine gT ?_ | refine gF ?_ | refine brT ?_ | refine brF ?_)
  first | refine Exists.intro _ (And.intro (s4) ?_) | refine Hn_by (Exists.intro _ (And.intro (s4) ?_))
  repeat (first | refine gT ?_ | refine gF ?_ | refine brT ?_ | refine brF ?_)
  first | refine Exists.intro _ (And.intro (s5) ?_) | refine Hn_by (Exists.intro _ (And.intro (s5) ?_))
  repeat (first | refine gT ?_ | refine gF ?_ | refine brT ?_ | refine brF ?_)
  first | refine Exists.intro _ (And.intro (s6) ?_) | refine Hn_by (Exists.intro _ (And.intro (s6) ?_))
  repeat (first | refine gT ?_ | refine gF ?_ | refine brT ?_ | refine brF ?_)
  exact And.intro (Or.inr rfl) rfl
theorem r2v_num (gl : List (Nat × AV)) {nn dn : Bool} {nl dl : List Int} {b : Bool} (s1 : Spec Tryz.prog gl 111 [mkI nn nl] (.bool false)) (s2 : Spec Tryz.prog gl 111 [mkI dn dl] (.bool b)) : Spec Tryz.prog gl 79 [mkQ nn nl dn dl] (.bool false):=by
 refine spec_fn T_ok mixed_ok 0 Tryz.func79 fn_ok79 (by kernel_rfl) ?_
 first | refine Exists.intro _ (And.intro (s1) ?_) | refine Hn_by (Exists.intro _ (And.intro (s1) ?_))
 first | refine Exists.intro _ (And.intro (s2) ?_) | refine Hn_by (Exists.intro _ (And.intro (s2) ?_))
 repeat (first | refine gT ?_ | refine gF ?_ | refine brT ?_ | refine brF ?_)
 exact And.intro (Or.inr rfl) rfl
theorem r2v_den (gl : List (Nat × AV)) {nn dn : Bool} {nl dl : List Int} (s1 : Spec Tryz.prog gl 111 [mkI nn nl] (.bool true)) (s2 : Spec Tryz.prog gl 111 [mkI dn dl] (.bool false)) : Spec Tryz.prog gl 79 [mkQ nn nl dn dl] (.bool false):=by
 refine spec_fn T_ok mixed_ok 0 Tryz.func79 fn_ok79 (by kernel_rfl) ?_
 first | refine Exists.intro _ (And.intro (s1) ?_) | refine Hn_by (Exists.intro _ (And.intro (s1) ?_))
 first | refine Exists.intro _ (And.intro (s2) ?_) | refine Hn_by (Exists.intro _ (And.intro (s2) ?_))
 repeat (first | refine gT ?_ | refine gF ?_ | refine brT ?_ | refine brF ?_)
 exact And.intro (Or.inr rfl) rfl
theorem r2v_neg (gl : List (Nat × AV)) {nn : Bool} {nl dl : List Int} (s1 : Spec Tryz.prog gl 111 [mkI nn nl] (.bool true)) (s2 : Spec Tryz.prog gl 111 [mkI true dl] (.bool true)) : Spec Tryz.prog gl 79 [mkQ nn nl true dl] (.bool false):=by
 refine spec_fn T_ok mixed_ok 0 Tryz.func79 fn_ok79 (by kernel_rfl) ?_
 first | refine Exists.intro _ (And.intro (s1) ?_) | refine Hn_by (Exists.intro _ (And.intro (s1) ?_))
 first | refine Exists.intro _ (And.intro (s2) ?_) | refine Hn_by (Exists.intro _ (And.intro (s2) ?_))
 repeat (first | refine gT ?_ | refine gF ?_ | refine brT ?_ | refine brF ?_)
 exact And.intro (Or.inr rfl) rfl
theorem r2v_gcd (gl : List (Nat × AV)) {nn : Bool} {nl dl g : List Int} {z b2 : Bool} (s1 : Spec Tryz.prog gl 111 [mkI nn nl] (.bool true)) (s2 : Spec Tryz.prog gl 111 [mkI false dl] (.bool true)) (s3 : Spec Tryz.prog gl 112 [mkI false dl] (.bool z))
  (s5 : Spec Tryz.prog gl 113 [mkI nn nl,mkI false dl] (.tup [mkI false g,.int .i64 0])) (s6 : Spec Tryz.prog gl 114 [mkI false g] (.bool b2)) :
  Spec Tryz.prog gl 79 [mkQ nn nl false dl] (.bool (bif z then false else b2)):=by
 cases z <;>
 ·refine spec_fn T_ok mixed_ok 0 Tryz.func79 fn_ok79 (by kernel_rfl) ?_
  first | refine Exists.intro _ (And.intro (s1) ?_) | refine Hn_by (Exists.intro _ (And.intro (s1) ?_))
  first | refine Exists.intro _ (And.intro (s2) ?_) | refine Hn_by (Exists.intro _ (And.intro (s2) ?_))
  repeat (first | refine gT ?_ | refine gF ?_ | refine brT ?_ | refine brF ?_)
  first | refine Exists.intro _ (And.intro (s3) ?_) | refine Hn_by (Exists.intro _ (And.intro (s3) ?_))
  repeat (first | refine gT ?_ | refine gF ?_ | refine brT ?_ | refine brF ?_)
  first
  | exact And.intro (Or.inr rfl) rfl
  | (first | refine Exists.intro _ (And.intro (s5) ?_) | refine Hn_by (Exists.intro _ (And.intro (s5) ?_)))
    (first | refine Exists.intro _ (And.intro (s6) ?_) | refine Hn_by (Exists.intro _ (And.intro (s6) ?_)))
    exact And.intro (Or.inr rfl) rfl
theorem qvalid_any (gl : List (Nat × AV)) {nn dn : Bool} {nl dl : List Int} (hn : Dg.D nl) (hd : Dg.D dl) (ln : nl.length <= 128) (ld : dl.length <= 128) :
  ∃ b,Spec Tryz.prog gl 64 [mkQ nn nl dn dl] (.bool b) ∧ Spec Tryz.prog gl 79 [mkQ nn nl dn dl] (.bool b) ∧
   (b = true -> ∃ n d,mkQ nn nl dn dl = mkR n d ∧ Fits n ∧ Fits d ∧ 0 < d ∧ Int.gcd n d = 1 ∧ nl = Dg.mag (az n) ∧ dl = Dg.mag (az d)):=by
 have s1:=ivalid_any gl nn nl ln
 have s2:=ivalid_any gl dn dl ld
 have r1:=rvalid_any gl nn nl ln
 have r2:=rvalid_any gl dn dl ld
 cases h1 : vB nn nl with
 | false =>
  rw [h1] at s1 r1
  exact ⟨false,qv_num gl s1,r2v_num gl r1 r2,fun e => by cases e⟩
 | true =>
  cases h2 : vB dn dl with
  | false =>
   rw [h1] at s1 r1
   rw [h2] at s2 r2
   exact ⟨false,qv_den gl s1 s2,r2v_den gl r1 r2,fun e => by cases e⟩
  | true =>
   rw [h1] at s1 r1
   rw [h2] at s2 r2
   cases dn with
   | true => exact ⟨false,qv_neg gl s1 s2,r2v_neg gl r1 r2,fun e => by cases e⟩
   | false =>
    obtain ⟨n,en,eln,fn⟩:=vB_z hn ln h1
    obtain ⟨d,ed,eld,fd⟩:=vB_z hd ld h2
    have d0 : 0 <= d:=by
     have:=of_decide_eq_false ed.symm
     omega
    have z1:=qzero_spec gl false dl
    have z2:=rzero_spec gl false dl
    have g1:=gcd_int gl fn fd
    have g2:=rgcd_int gl fn fd
    rw [mkZ_nn (Int.natCast_nonneg _)] at g1 g2
    have emd : mkZ d = mkI false dl:=by rw [eld]; unfold mkZ; rw [<- ed]
    have emn : mkZ n = mkI nn nl:=by rw [eln]; unfold mkZ; rw [<- en]
    rw [emd,emn] at g1 g2
    have o1:=qone_spec gl false (Dg.mag (Int.gcd n d : Int))
    have o2:=risone_spec gl false (Dg.mag (Int.gcd n d : Int))
    have v:=r2v_gcd gl r1 r2 z2 g2 o2
    by_cases hz : dl = []
    ·rw [decide_eq_true hz] at z1 v
     exact ⟨false,qv_zero gl s1 s2 z1,v,fun e => by cases e⟩
    ·rw [decide_eq_false hz] at z1 v
     have dpos : 0 < d:=by
      have : d ≠ 0:=fun e => hz (by rw [eld,e]; exact (mag_nil (az_nn 0)).2 rfl)
      omega
     refine ⟨_,qv_gcd gl s1 s2 z1 (qone_spec gl false dl) g1 o1 (fun e => ?_),v,fun e => ?_⟩
     ·have e1 : dl = [1]:=of_decide_eq_true e
      have e2 : d = 1:=(mag_is_one (g:=d) d0).1 (by rw [<- az_pos dpos,<- eld,e1])
      exact decide_eq_true ((mag_is_one (Int.natCast_nonneg _)).2 (by rw [e2,Int.gcd_one_right]; rfl))
     ·have e1 : Dg.mag (Int.gcd n d : Int) = [1]:=of_decide_eq_true e
      have e2:=(mag_is_one (Int.natCast_nonneg _)).1 e1
      refine ⟨n,d,?_,fn,fd,dpos,by omega,eln,eld⟩
      unfold mkR
      rw [<- en,<- ed,<- eln,<- eld]
end Ab
end
section
open Go Go.Proofs
namespace Ab
set_option maxRecDepth 100000
set_option maxHeartbeats 1000000
theorem rneg_nz (gl : List (Nat × AV)) {nn : Bool} {nl : List Int} (z : Spec Tryz.prog gl 112 [mkI nn nl] (.bool false)) : Spec Tryz.prog gl 160 [mkI nn nl] (mkI (!nn) nl):=by
 refine spec_fn T_ok mixed_ok 0 Tryz.func160 fn_ok160 (by kernel_rfl) ?_
 first | refine Exists.intro _ (And.intro (z) ?_) | refine Hn_by (Exists.intro _ (And.intro (z) ?_))
 repeat (first | refine gT ?_ | refine gF ?_ | refine brT ?_ | refine brF ?_)
 exact And.intro (Or.inr rfl) rfl
theorem rneg_z (gl : List (Nat × AV)) {nn : Bool} {nl : List Int} (z : Spec Tryz.prog gl 112 [mkI nn nl] (.bool true)) : Spec Tryz.prog gl 160 [mkI nn nl] (mkI nn nl):=by
 refine spec_fn T_ok mixed_ok 0 Tryz.func160 fn_ok160 (by kernel_rfl) ?_
 first | refine Exists.intro _ (And.intro (z) ?_) | refine Hn_by (Exists.intro _ (And.intro (z) ?_))
 repeat (first | refine gT ?_ | refine gF ?_ | refine brT ?_ | refine brF ?_)
 exact And.intro (Or.inr rfl) rfl
theorem rneg_int (gl : List (Nat × AV)) (z : Int) : Spec Tryz.prog gl 160 [mkZ z] (mkZ (-z)):=by
 have e : az (-z) = az z:=by unfold az; omega
 have s:=rzero_spec gl (decide (z < 0)) (Dg.mag (az z))
 unfold mkZ
 rw [e]
 by_cases h : z = 0
 ·subst h
  rw [decide_eq_true (show Dg.mag (az 0) = [] from (mag_nil (az_nn 0)).2 rfl)] at s
  exact rneg_z gl s
 ·rw [decide_eq_false (mag_ne h)] at s
  rw [show decide (-z < 0) = !decide (z < 0) by by_cases g : z < 0 <;> simp [g] <;> omega]
  exact rneg_nz gl s
theorem rboth_walk (gl : List (Nat × AV)) {an bn ad bd : Bool} {al bl am bm : List Int} (v1 : Spec Tryz.prog gl 79 [mkQ an al ad am] (.bool true)) (v2 : Spec Tryz.prog gl 79 [mkQ bn bl bd bm] (.bool true)) :
  Spec Tryz.prog gl 124 [mkQ an al ad am,mkQ bn bl bd bm] (.bool true):=by
 refine spec_fn T_ok mixed_ok 0 Tryz.func124 fn_ok124 (by kernel_rfl) ?_
 first | refine Exists.intro _ (And.intro (v1) ?_) | refine Hn_by (Exists.intro _ (And.intro (v1) ?_))
 first | refine Exists.intro _ (And.intro (v2) ?_) | refine Hn_by (Exists.intro _ (And.intro (v2) ?_))
 repeat (first | refine gT ?_ | refine gF ?_ | refine brT ?_ | refine brF ?_)
 exact And.intro (Or.inr rfl) rfl
theorem rsub_walk (gl : List (Nat × AV)) {an bn ad bd xn yn zn sn qn rn rd : Bool} {al bl am bm xl yl sl ql rl rm : List Int} (bo : Spec Tryz.prog gl 124 [mkQ an al ad am,mkQ bn bl bd bm] (.bool true))
  (m1 : Spec Tryz.prog gl 125 [mkI an al,mkI bd bm] (.tup [mkI xn xl,.int .i64 0])) (m2 : Spec Tryz.prog gl 125 [mkI bn bl,mkI ad am] (.tup [mkI yn yl,.int .i64 0]))
  (ng : Spec Tryz.prog gl 160 [mkI yn yl] (mkI zn yl)) (ad1 : Spec Tryz.prog gl 161 [mkI xn xl,mkI zn yl] (.tup [mkI sn sl,.int .i64 0])) (m3 : Spec Tryz.prog gl 125 [mkI ad am,mkI bd bm] (.tup [mkI qn ql,.int .i64 0]))
  (lo : Spec Tryz.prog gl 126 [mkI sn sl,mkI qn ql] (mkQ rn rl rd rm)) :
  Spec Tryz.prog gl 83 [mkQ an al ad am,mkQ bn bl bd bm] (.tup [mkQ rn rl rd rm,.int .i64 0]):=by
 have s : Spec Tryz.prog gl 123 [mkQ an al ad am,mkQ bn bl bd bm,.bool true] (.tup [mkQ rn rl rd rm,.int .i64 0]):=by
  refine spec_fn T_ok mixed_ok 0 Tryz.func123 fn_ok123 (by kernel_rfl) ?_
  first | refine Exists.intro _ (And.intro (bo) ?_) | refine Hn_by (Exists.intro _ (And.intro (bo) ?_))
  repeat (first | refine gT ?_ | refine gF ?_ | refine brT ?_ | refine brF ?_)
  first | refine Exists.intro _ (And.intro (m1) ?_) | refine Hn_by (Exists.intro _ (And.intro (m1) ?_))
  repeat (first | refine gT ?_ | refine gF ?_ | refine brT ?_ | refine brF ?_)
  first | refine Exists.intro _ (And.intro (m2) ?_) | refine Hn_by (Exists.intro _ (And.intro (m2) ?_))
  repeat (first | refine gT ?_ | refine gF ?_ | refine brT ?_ | refine brF ?_)
  first | refine Exists.intro _ (And.intro (ng) ?_) | refine Hn_by (Exists.intro _ (And.intro (ng) ?_))
  first | refine Exists.intro _ (And.intro (ad1) ?_) | refine Hn_by (Exists.intro _ (And.intro (ad1) ?_))
  repeat (first | refine gT ?_ | refine gF ?_ | refine brT ?_ | refine brF ?_)
  first | refine Exists.intro _ (And.intro (m3) ?_) | refine Hn_by (Exists.intro _ (And.intro (m3) ?_))
  repeat (first | refine gT ?_ | refine gF ?_ | refine brT ?_ | refine brF ?_)
  first | refine Exists.intro _ (And.intro (lo) ?_) | refine Hn_by (Exists.intro _ (And.intro (lo) ?_))
  exact And.intro (Or.inr rfl) rfl
 refine spec_fn T_ok mixed_ok 0 Tryz.func83 fn_ok83 (by kernel_rfl) ?_
 first | refine Exists.intro _ (And.intro (s) ?_) | refine Hn_by (Exists.intro _ (And.intro (s) ?_))
 exact And.intro (Or.inr rfl) rfl
theorem lowest_int (gl : List (Nat × AV)) {n d : Int} (hn : Fits n) (hd : Fits d) (h : 0 < d) : Spec Tryz.prog gl 126 [mkZ n,mkZ d] (mkR (n / Int.gcd n d) (d / Int.gcd n d)):=by
 have s:=rgcd_int gl hn hd
 have g0:=gcd_pos (n:=n) h
 have fg:=fits_gcd (n:=n) h hd
 have dn:=Int.gcd_dvd_left n d
 have dv:=Int.gcd_dvd_right n d
 generalize (Int.gcd n d : Int) = g at *
 have d1:=rdmod_int gl hn fg g0
 have d2:=rdmod_int gl hd fg g0
 rw [Int.emod_eq_zero_of_dvd dn,mkZ_zero] at d1
 rw [Int.emod_eq_zero_of_dvd dv,mkZ_zero] at d2
 have q0 : 0 < d / g:=Int.ediv_pos_of_pos_of_dvd h (by omega) dv
 rw [mkZ_nn (a:=g) (by omega)] at s d1 d2
 rw [mkZ_nn (a:=d) (by omega)] at s d2 ⊢
 rw [mkZ_nn (a:=d / g) (by omega)] at d2
 rw [mkR_pos q0]
 exact lowest_walk gl s d1 d2
theorem r2valid_int (gl : List (Nat × AV)) {n d : Int} (hn : Fits n) (hd : Fits d) (h : 0 < d) (hg : Int.gcd n d = 1) : Spec Tryz.prog gl 79 [mkR n d] (.bool true):=by
 have r1:=rvalid_int gl hn
 have r2:=rvalid_int gl hd
 have g2:=rgcd_int gl hn hd
 have z2:=rzero_spec gl false (Dg.mag d)
 rw [decide_eq_false (show ¬ Dg.mag d = [] from fun e => by have:=(mag_nil (n:=d) (by omega)).1 e; omega)] at z2
 rw [hg,mkZ_nn (Int.natCast_nonneg 1),show ((1 : Nat) : Int) = 1 from rfl,mag_one] at g2
 rw [mkZ_nn (a:=d) (by omega)] at r2 g2
 rw [mkR_pos h]
 exact r2v_gcd gl r1 r2 z2 g2 (risone_spec gl false [1])
theorem r2sub_int (gl : List (Nat × AV)) {a b c d : Int} (ha : Fits a) (hb : Fits b) (hc : Fits c) (hd : Fits d) (b0 : 0 < b) (d0 : 0 < d) (g1 : Int.gcd a b = 1) (g2 : Int.gcd c d = 1) (h1 : Fits (a * d)) (h2 : Fits (c * b)) (hn : Fits (a * d - c * b)) (hm : Fits (b * d)) :
  Spec Tryz.prog gl 83 [mkR a b,mkR c d] (.tup [mkR ((a * d - c * b) / Int.gcd (a * d - c * b) (b * d)) (b * d / Int.gcd (a * d - c * b) (b * d)),.int .i64 0]):=by
 have e : a * d + -(c * b) = a * d - c * b:=by omega
 have fneg : Fits (-(c * b)):=by unfold Fits; rw [show az (-(c * b)) = az (c * b) by unfold az; omega]; exact h2
 have ng:=rneg_int gl (c * b)
 have ad:=radd_int gl h1 fneg (by rw [e]; exact hn)
 rw [e] at ad
 have enl : mkZ (-(c * b)) = mkI (decide (-(c * b) < 0)) (Dg.mag (az (c * b))):=by
  unfold mkZ
  rw [show az (-(c * b)) = az (c * b) by unfold az; omega]
 rw [enl] at ng ad
 exact rsub_walk gl (rboth_walk gl (r2valid_int gl ha hb b0 g1) (r2valid_int gl hc hd d0 g2)) (rmul_int gl ha hd h1) (rmul_int gl hc hb h2) ng ad (rmul_int gl hb hd hm) (lowest_int gl hn hm (Int.mul_pos b0 d0))
theorem r2floor_walk (gl : List (Nat × AV)) {nn dn mn qn rn : Bool} {nl dl ml ql rl : List Int} (v : Spec Tryz.prog gl 79 [mkQ nn nl dn dl] (.bool true)) (s : Spec Tryz.prog gl 164 [mkI nn nl,.int .i64 24] (.tup [mkI mn ml,.int .i64 0]))
  (d : Spec Tryz.prog gl 163 [mkI mn ml,mkI dn dl] (.tup [mkI qn ql,mkI rn rl,.int .i64 0])) : Spec Tryz.prog gl 127 [mkQ nn nl dn dl,.int .i64 24] (.tup [mkI qn ql,.int .i64 0]):=by
 refine spec_fn T_ok mixed_ok 0 Tryz.func127 fn_ok127 (by kernel_rfl) ?_
 first | refine Exists.intro _ (And.intro (v) ?_) | refine Hn_by (Exists.intro _ (And.intro (v) ?_))
 repeat (first | refine gT ?_ | refine gF ?_ | refine brT ?_ | refine brF ?_)
 first | refine Exists.intro _ (And.intro (s) ?_) | refine Hn_by (Exists.intro _ (And.intro (s) ?_))
 repeat (first | refine gT ?_ | refine gF ?_ | refine brT ?_ | refine brF ?_)
 first | refine Exists.intro _ (And.intro (d) ?_) | refine Hn_by (Exists.intro _ (And.intro (d) ?_))
 repeat (first | refine gT ?_ | refine gF ?_ | refine brT ?_ | refine brF ?_)
 exact And.intro (Or.inr rfl) rfl
theorem r2floor_int (gl : List (Nat × AV)) {n d : Int} (hn : Fits n) (hd : Fits d) (h : 0 < d) (hg : Int.gcd n d = 1) (hs : Fits (n * 16777216)) : Spec Tryz.prog gl 127 [mkR n d,.int .i64 24] (.tup [mkZ (n * 16777216 / d),.int .i64 0]):=by
 have v:=r2valid_int gl hn hd h hg
 have s:=rshl_int gl hn (n:=24) (by decide) (by rw [show (2 : Int) ^ 24 = 16777216 by decide]; exact hs)
 rw [show (2 : Int) ^ 24 = 16777216 by decide] at s
 exact r2floor_walk gl v s (rdmod_int gl hs hd h)
end Ab
end
