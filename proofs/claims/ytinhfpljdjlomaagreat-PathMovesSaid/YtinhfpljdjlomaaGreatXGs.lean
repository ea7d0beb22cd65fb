import Derived.Test.YtinhfpljdjlomaaGreatXGr
section
open Go Go.Proofs
namespace Ab
set_option maxRecDepth 100000
set_option maxHeartbeats 1000000
end Ab
end
section
open Go Go.Proofs
namespace Ab
set_option maxRecDepth 100000
set_option maxHeartbeats 1000000
end Ab
end
section
open Go Go.Proofs
namespace Ab
set_option maxRecDepth 100000
set_option maxHeartbeats 1000000
end Ab
end
section
open Go Go.Proofs
namespace Ab
set_option maxRecDepth 100000
set_option maxHeartbeats 1000000
end Ab
end
section
open Go Go.Proofs
namespace Ab
set_option maxRecDepth 100000
set_option maxHeartbeats 1000000
end Ab
end
section
open Go Go.Proofs
namespace Ab
set_option maxRecDepth 100000
set_option maxHeartbeats 1000000
def vB (neg : Bool) (l : List Int) : Bool:=match l.getLast? with | none => !neg | some x => x != 0
theorem vB_nil (neg : Bool) : vB neg [] = !neg:=rfl
theorem vB_last {neg : Bool} {l : List Int} (h : l ≠ []) : vB neg l = (l.getD (l.length - 1) 0 != 0):=by
 have hp:=List.length_pos_iff.2 h
 unfold vB
 rw [List.getLast?_eq_getElem?,getD_some (show l.length - 1 < l.length by omega)]
theorem ivalid_any (gl : List (Nat × AV)) (neg : Bool) (l : List Int) (hl : l.length <= 128) : Spec Tryz.prog gl 90 [mkI neg l] (.bool (vB neg l)):=by
 by_cases h : l = []
 ·subst h
  rw [vB_nil]
  refine spec_fn T_ok mixed_ok 0 Tryz.func90 fn_ok90 (by kernel_rfl) ?_
  repeat (first | refine gT ?_ | refine gF ?_ | refine brT ?_ | refine brF ?_)
  exact And.intro (Or.inr rfl) rfl
 ·have hp:=List.length_pos_iff.2 h
  have ll : ((irows .u32 l).length : Int) = l.length:=by rw [irows_len]
  have hw : w64 (((irows .u32 l).length : Int) - 1) = ((l.length - 1 : Nat) : Int):=by rw [ll,w64_eq (by omega)]; omega
  have ix : (irows .u32 l)[(w64 (((irows .u32 l).length : Int) - 1)).toNat]? = some [.int .u32 (l.getD (l.length - 1) 0)]:=irows_at (by rw [hw,Int.toNat_natCast]; exact getD_some (by omega))
  rw [vB_last h]
  refine spec_fn T_ok mixed_ok 0 Tryz.func90 fn_ok90 (by kernel_rfl) ?_
  refine brE (fun g => ?_) (fun _ => ?_)
  ·have g' : ((irows .u32 l).length : Int) = 0:=g
   omega
  refine br (fun _ => ?_) (fun g => ?_)
  ·repeat (first | refine gT ?_ | refine gF ?_ | refine brT ?_ | refine brF ?_)
   refine And.intro (show 0 <= w64 (((irows .u32 l).length : Int) - 1) by omega) (Exists.intro _ (And.intro ix ?_))
   repeat (first | refine gT ?_ | refine gF ?_ | refine brT ?_ | refine brF ?_)
   exact And.intro (Or.inr rfl) rfl
  ·have g' : ¬ ((irows .u32 l).length : Int) <= 128:=g
   omega
theorem rvalid_any (gl : List (Nat × AV)) (neg : Bool) (l : List Int) (hl : l.length <= 128) : Spec Tryz.prog gl 111 [mkI neg l] (.bool (vB neg l)):=by
 by_cases h : l = []
 ·subst h
  rw [vB_nil]
  refine spec_fn T_ok mixed_ok 0 Tryz.func111 fn_ok111 (by kernel_rfl) ?_
  repeat (first | refine gT ?_ | refine gF ?_ | refine brT ?_ | refine brF ?_)
  exact And.intro (Or.inr rfl) rfl
 ·have hp:=List.length_pos_iff.2 h
  have ll : ((irows .u32 l).length : Int) = l.length:=by rw [irows_len]
  have hw : w64 (((irows .u32 l).length : Int) - 1) = ((l.length - 1 : Nat) : Int):=by rw [ll,w64_eq (by omega)]; omega
  have ix : (irows .u32 l)[(w64 (((irows .u32 l).length : Int) - 1)).toNat]? = some [.int .u32 (l.getD (l.length - 1) 0)]:=irows_at (by rw [hw,Int.toNat_natCast]; exact getD_some (by omega))
  rw [vB_last h]
  refine spec_fn T_ok mixed_ok 0 Tryz.func111 fn_ok111 (by kernel_rfl) ?_
  refine br (fun g => ?_) (fun _ => ?_)
  ·have g' : ((irows .u32 l).length : Int) > 128:=g
   omega
  refine brE (fun g => ?_) (fun _ => ?_)
  ·have g' : ((irows .u32 l).length : Int) = 0:=g
   omega
  refine And.intro (show 0 <= w64 (((irows .u32 l).length : Int) - 1) by omega) (Exists.intro _ (And.intro ix ?_))
  exact And.intro (Or.inr rfl) rfl
theorem vB_z {neg : Bool} {l : List Int} (hD : Dg.D l) (hl : l.length <= 128) (h : vB neg l = true) : ∃ z,neg = decide (z < 0) ∧ l = Dg.mag (az z) ∧ Fits z:=by
 by_cases h0 : l = []
 ·subst h0
  have hn : neg = false:=by rw [vB_nil] at h; simpa using h
  exact ⟨0,by rw [hn]; rfl,((mag_nil (az_nn 0)).2 rfl).symm,fits_i64 (by decide) (by decide)⟩
 ·have hp:=List.length_pos_iff.2 h0
  rw [vB_last h0] at h
  have hc : Dg.Canon l:=by
   intro x hx
   rw [List.getLast?_eq_getElem?,getD_some (show l.length - 1 < l.length by omega)] at hx
   cases hx
   simpa using h
  have em:=Dg.mag_of hD hc
  have v0:=Dg.val_pos hD hc h0
  have ea : az (sg neg (Dg.val l)) = Dg.val l:=by unfold sg az; split <;> omega
  refine ⟨sg neg (Dg.val l),?_,by rw [ea]; exact em,by unfold Fits; rw [ea,<- em]; exact hl⟩
  unfold sg
  cases neg with
  | true => rw [if_pos rfl]; exact (decide_eq_true (by omega)).symm
  | false => rw [if_neg (by decide)]; exact (decide_eq_false (by omega)).symm
theorem risone_spec (gl : List (Nat × AV)) (neg : Bool) (l : List Int) : Spec Tryz.prog gl 114 [mkI neg l] (.bool (bif neg then false else decide (l = [1]))):=by
 cases neg with
 | true =>
  refine spec_fn T_ok mixed_ok 0 Tryz.func114 fn_ok114 (by kernel_rfl) ?_
  repeat (first | refine gT ?_ | refine gF ?_ | refine brT ?_ | refine brF ?_)
  exact And.intro (Or.inr rfl) rfl
 | false =>
  match l with
  | [] =>
   refine spec_fn T_ok mixed_ok 0 Tryz.func114 fn_ok114 (by kernel_rfl) ?_
   repeat (first | refine gT ?_ | refine gF ?_ | refine brT ?_ | refine brF ?_)
   exact And.intro (Or.inr rfl) rfl
  | [x] =>
   refine spec_fn T_ok mixed_ok 0 Tryz.func114 fn_ok114 (by kernel_rfl) ?_
   repeat (first | refine gT ?_ | refine gF ?_ | refine brT ?_ | refine brF ?_)
   refine And.intro (by decide) (Exists.intro _ (And.intro rfl ?_))
   repeat (first | refine gT ?_ | refine gF ?_ | refine brT ?_ | refine brF ?_)
   exact And.intro (Or.inr rfl) (congrArg AV.bool (one_ans x))
  | x :: y :: l =>
   have e : decide (x :: y :: l = [1]) = false:=decide_eq_false (by simp)
   rw [e]
   refine spec_fn T_ok mixed_ok 0 Tryz.func114 fn_ok114 (by kernel_rfl) ?_
   repeat (first | refine gT ?_ | refine gF ?_ | refine brT ?_ | refine brF ?_)
   exact And.intro (Or.inr rfl) rfl
theorem qv_num (gl : List (Nat × AV)) {nn dn : Bool} {nl dl : List Int} (s1 : Spec Tryz.prog gl 90 [mkI nn nl] (.bool false)) : Spec Tryz.prog gl 64 [mkQ nn nl dn dl] (.bool false):=by
 refine spec_fn T_ok mixed_ok 1 Tryz.func64 fn_ok64 (by kernel_rfl) ?_
 first | refine Exists.intro _ (And.intro (s1) ?_) | refine Hn_by (Exists.intro _ (And.intro (s1) ?_))
 repeat (first | refine gT ?_ | refine gF ?_ | refine brT ?_ | refine brF ?_)
 exact And.intro (Or.inr rfl) rfl
theorem qv_den (gl : List (Nat × AV)) {nn dn : Bool} {nl dl : List Int} (s1 : Spec Tryz.prog gl 90 [mkI nn nl] (.bool true)) (s2 : Spec Tryz.prog gl 90 [mkI dn dl] (.bool false)) : Spec Tryz.prog gl 64 [mkQ nn nl dn dl] (.bool false):=by
 refine spec_fn T_ok mixed_ok 1 Tryz.func64 fn_ok64 (by kernel_rfl) ?_
 first | refine Exists.intro _ (And.intro (s1) ?_) | refine Hn_by (Exists.intro _ (And.intro (s1) ?_))
 repeat (first | refine gT ?_ | refine gF ?_ | refine brT ?_ | refine brF ?_)
 first | refine Exists.intro _ (And.intro (s2) ?_) | refine Hn_by (Exists.intro _ (And.intro (s2) ?_))
 repeat (first | refine gT ?_ | refine gF ?_ | refine brT ?_ | refine brF ?_)
 exact And.intro (Or.inr rfl) rfl
theorem qv_neg (gl : List (Nat × AV)) {nn : Bool} {nl dl : List Int} (s1 : Spec Tryz.prog gl 90 [mkI nn nl] (.bool true)) (s2 : Spec Tryz.prog gl 90 [mkI true dl] (.bool true)) : Spec Tryz.prog gl 64 [mkQ nn nl true dl] (.bool false):=by
 refine spec_fn T_ok mixed_ok 1 Tryz.func64 fn_ok64 (by kernel_rfl) ?_
 first | refine Exists.intro _ (And.intro (s1) ?_) | refine Hn_by (Exists.intro _ (And.intro (s1) ?_))
 repeat (first | refine gT ?_ | refine gF ?_ | refine brT ?_ | refine brF ?_)
 first | refine Exists.intro _ (And.intro (s2) ?_) | refine Hn_by (Exists.intro _ (And.intro (s2) ?_))
 repeat (first | refine gT ?_ | refine gF ?_ | refine brT ?_ | refine brF ?_)
 exact And.intro (Or.inr rfl) rfl
theorem qv_zero (gl : List (Nat × AV)) {nn : Bool} {nl dl : List Int} (s1 : Spec Tryz.prog gl 90 [mkI nn nl] (.bool true)) (s2 : Spec Tryz.prog gl 90 [mkI false dl] (.bool true)) (s3 : Spec Tryz.prog gl 91 [mkI false dl] (.bool true)) : Spec Tryz.prog gl 64 [mkQ nn nl false dl] (.bool false):=by
 refine spec_fn T_ok mixed_ok 1 Tryz.func64 fn_ok64 (by kernel_rfl) ?_
 first | refine Exists.intro _ (And.intro (s1) ?_) | refine Hn_by (Exists.intro _ (And.intro (s1) ?_))
 repeat (first | refine gT ?_ | refine gF ?_ | refine brT ?_ | refine brF ?_)
 first | refine Exists.intro _ (And.intro (s2) ?_) | refine Hn_by (Exists.intro _ (And.intro (s2) ?_))
 repeat (first | refine gT ?_ | refine gF ?_ | refine brT ?_ | refine brF ?_)
 first | refine Exists.intro _ (And.intro (s3) ?_) | refine Hn_by (Exists.intro _ (And.intro (s3) ?_))
 repeat (first | refine gT ?_ | refine gF ?_ | refine brT ?_ | refine brF ?_)
 exact And.intro (Or.inr rfl) rfl
theorem qv_gcd (gl : List (Nat × AV)) {nn : Bool} {nl dl g : List Int} {b b2 : Bool} (s1 : Spec Tryz.prog gl 90 [mkI nn nl] (.bool true)) (s2 : Spec Tryz.prog gl 90 [mkI false dl] (.bool true)) (s3 : Spec Tryz.prog gl 91 [mkI false dl] (.bool false))
  (s4 : Spec Tryz.prog gl 92 [mkI false dl] (.bool b)) (s5 : Spec Tryz.prog gl 93 [mkI nn nl,mkI false dl] (.tup [mkI false g,.int .i64 0])) (s6 : Spec Tryz.prog gl 92 [mkI false g] (.bool b2)) (hb : b = true -> b2 = true) :
  Spec Tryz.prog gl 64 [mkQ nn nl false dl] (.bool b2):=by
 cases b with
 | true =>
  rw [hb rfl]
  refine spec_fn T_ok mixed_ok 1 Tryz.func64 fn_ok64 (by kernel_rfl) ?_
  first | refine Exists.intro _ (And.intro (s1) ?_) | refine Hn_by (Exists.intro _ (And.intro (s1) ?_))
  repeat (first | refine gT ?_ | refine gF ?_ | refine brT ?_ | refine brF ?_)
  first | refine Exists.intro _ (And.intro (s2) ?_) | refine Hn_by (Exists.intro _ (And.intro (s2) ?_))
  repeat (first | refine gT ?_ | refine gF ?_ | refine brT ?_ | refine brF ?_)
  first | refine Exists.intro _ (And.intro (s3) ?_) | refine Hn_by (Exists.intro _ (And.intro (s3) ?_))
  repeat (first | refine gT ?_ | refine gF ?_ | refine brT ?_ | refine brF ?_)
  first | refine Exists.intro _ (And.intro (s4) ?_) | refine Hn_by (Exists.intro _ (And.intro (s4) ?_))
  repeat (first | refine gT ?_ | refine gF ?_ | refine brT ?_ | refine brF ?_)
  exact And.intro (Or.inr rfl) rfl
 | false =>
  refine spec_fn T_ok mixed_ok 1 Tryz.func64 fn_ok64 (by kernel_rfl) ?_
  first | refine Exists.intro _ (And.intro (s1) ?_) | refine Hn_by (Exists.intro _ (And.intro (s1) ?_))
  repeat (first | refine gT ?_ | refine gF ?_ | refine brT ?_ | refine brF ?_)
  first | refine Exists.intro _ (And.intro (s2) ?_) | refine Hn_by (Exists.intro _ (And.intro (s2) ?_))
  repeat (first | refine gT ?_ | refine gF ?_ | refine brT ?_ | refine brF ?_)
  first | refine Exists.intro _ (And.intro (s3) ?_) | refine Hn_by (Exists.intro _ (And.intro (s3) ?_))
  repeat (first | refine gT ?_ | refine gF ?_ | refine brT ?_ | refine brF ?_)
  first | refine Exists.intro _ (And.intro (s4) ?_) | refine Hn_by (Exists.intro _ (And.intro (s4) ?_))
  repeat (first | refine gT ?_ | refine gF ?_ | refine brT ?_ | refine brF ?_)
  first | refine Exists.intro _ (And.intro (s5) ?_) | refine Hn_by (Exists.intro _ (And.intro (s5) ?_))
  repeat (first | refine gT ?_ | refine gF ?_ | refine brT ?_ | refine brF ?_)
  first | refine Exists.intro _ (And.intro (s6) ?_) | refine Hn_by (Exists.intro _ (And.intro (s6) ?_))
  repeat (first | refine gT ?_ | refine gF ?_ | refine brT ?_ | refine brF ?_)
  exact And.intro (Or.inr rfl) rfl
theorem r2v_num (gl : List (Nat × AV)) {nn dn : Bool} {nl dl : List Int} {b : Bool} (s1 : Spec Tryz.prog gl 111 [mkI nn nl] (.bool false)) (s2 : Spec Tryz.prog gl 111 [mkI dn dl] (.bool b)) : Spec Tryz.prog gl 79 [mkQ nn nl dn dl] (.bool false):=by
 refine spec_fn T_ok mixed_ok 0 Tryz.func79 fn_ok79 (by kernel_rfl) ?_
 first | refine Exists.intro _ (And.intro (s1) ?_) | refine Hn_by (Exists.intro _ (And.intro (s1) ?_))
 first | refine Exists.intro _ (And.intro (s2) ?_) | refine Hn_by (Exists.intro _ (And.intro (s2) ?_))
 repeat (first | refine gT ?_ | refine gF ?_ | refine brT ?_ | refine brF ?_)
 exact And.intro (Or.inr rfl) rfl
theorem r2v_den (gl : List (Nat × AV)) {nn dn : Bool} {nl dl : List Int} (s1 : Spec Tryz.prog gl 111 [mkI nn nl] (.bool true)) (s2 : Spec Tryz.prog gl 111 [mkI dn dl] (.bool false)) : Spec Tryz.prog gl 79 [mkQ nn nl dn dl] (.bool false):=by
 refine spec_fn T_ok mixed_ok 0 Tryz.func79 fn_ok79 (by kernel_rfl) ?_
 first | refine Exists.intro _ (And.intro (s1) ?_) | refine Hn_by (Exists.intro _ (And.intro (s1) ?_))
 first | refine Exists.intro _ (And.intro (s2) ?_) | refine Hn_by (Exists.intro _ (And.intro (s2) ?_))
 repeat (first | refine gT ?_ | refine gF ?_ | refine brT ?_ | refine brF ?_)
 exact And.intro (Or.inr rfl) rfl
theorem r2v_neg (gl : List (Nat × AV)) {nn : Bool} {nl dl : List Int} (s1 : Spec Tryz.prog gl 111 [mkI nn nl] (.bool true)) (s2 : Spec Tryz.prog gl 111 [mkI true dl] (.bool true)) : Spec Tryz.prog gl 79 [mkQ nn nl true dl] (.bool false):=by
 refine spec_fn T_ok mixed_ok 0 Tryz.func79 fn_ok79 (by kernel_rfl) ?_
 first | refine Exists.intro _ (And.intro (s1) ?_) | refine Hn_by (Exists.intro _ (And.intro (s1) ?_))
 first | refine Exists.intro _ (And.intro (s2) ?_) | refine Hn_by (Exists.intro _ (And.intro (s2) ?_))
 repeat (first | refine gT ?_ | refine gF ?_ | refine brT ?_ | refine brF ?_)
 exact And.intro (Or.inr rfl) rfl
theorem r2v_gcd (gl : List (Nat × AV)) {nn : Bool} {nl dl g : List Int} {z b2 : Bool} (s1 : Spec Tryz.prog gl 111 [mkI nn nl] (.bool true)) (s2 : Spec Tryz.prog gl 111 [mkI false dl] (.bool true)) (s3 : Spec Tryz.prog gl 112 [mkI false dl] (.bool z))
  (s5 : Spec Tryz.prog gl 113 [mkI nn nl,mkI false dl] (.tup [mkI false g,.int .i64 0])) (s6 : Spec Tryz.prog gl 114 [mkI false g] (.bool b2)) :
  Spec Tryz.prog gl 79 [mkQ nn nl false dl] (.bool (bif z then false else b2)):=by
 cases z <;>
 ·refine spec_fn T_ok mixed_ok 0 Tryz.func79 fn_ok79 (by kernel_rfl) ?_
  first | refine Exists.intro _ (And.intro (s1) ?_) | refine Hn_by (Exists.intro _ (And.intro (s1) ?_))
  first | refine Exists.intro _ (And.intro (s2) ?_) | refine Hn_by (Exists.intro _ (And.intro (s2) ?_))
  repeat (first | refine gT ?_ | refine gF ?_ | refine brT ?_ | refine brF ?_)
  first | refine Exists.intro _ (And.intro (s3) ?_) | refine Hn_by (Exists.intro _ (And.intro (s3) ?_))
  repeat (first | refine gT ?_ | refine gF ?_ | refine brT ?_ | refine brF ?_)
  first
  | exact And.intro (Or.inr rfl) rfl
  | (first | refine Exists.intro _ (And.intro (s5) ?_) | refine Hn_by (Exists.intro _ (And.intro (s5) ?_)))
    (first | refine Exists.intro _ (And.intro (s6) ?_) | refine Hn_by (Exists.intro _ (And.intro (s6) ?_)))
    exact And.intro (Or.inr rfl) rfl
theorem qvalid_any (gl : List (Nat × AV)) {nn dn : Bool} {nl dl : List Int} (hn : Dg.D nl) (hd : Dg.D dl) (ln : nl.length <= 128) (ld : dl.length <= 128) :
  ∃ b,Spec Tryz.prog gl 64 [mkQ nn nl dn dl] (.bool b) ∧ Spec Tryz.prog gl 79 [mkQ nn nl dn dl] (.bool b) ∧
   (b = true -> ∃ n d,mkQ nn nl dn dl = mkR n d ∧ Fits n ∧ Fits d ∧ 0 < d ∧ Int.gcd n d = 1 ∧ nl = Dg.mag (az n) ∧ dl = Dg.mag (az d)):=by
 have s1:=ivalid_any gl nn nl ln
 have s2:=ivalid_any gl dn dl ld
 have r1:=rvalid_any gl nn nl ln
 have r2:=rvalid_any gl dn dl ld
 cases h1 : vB nn nl with
 | false =>
  rw [h1] at s1 r1
  exact ⟨false,qv_num gl s1,r2v_num gl r1 r2,fun e => by cases e⟩
 | true =>
  cases h2 : vB dn dl with
  | false =>
   rw [h1] at s1 r1
   rw [h2] at s2 r2
   exact ⟨false,qv_den gl s1 s2,r2v_den gl r1 r2,fun e => by cases e⟩
  | true =>
   rw [h1] at s1 r1
   rw [h2] at s2 r2
   cases dn with
   | true => exact ⟨false,qv_neg gl s1 s2,r2v_neg gl r1 r2,fun e => by cases e⟩
   | false =>
    obtain ⟨n,en,eln,fn⟩:=vB_z hn ln h1
    obtain ⟨d,ed,eld,fd⟩:=vB_z hd ld h2
    have d0 : 0 <= d:=by
     have:=of_decide_eq_false ed.symm
     omega
    have z1:=qzero_spec gl false dl
    have z2:=rzero_spec gl false dl
    have g1:=gcd_int gl fn fd
    have g2:=rgcd_int gl fn fd
    rw [mkZ_nn (Int.natCast_nonneg _)] at g1 g2
    have emd : mkZ d = mkI false dl:=by rw [eld]; unfold mkZ; rw [<- ed]
    have emn : mkZ n = mkI nn nl:=by rw [eln]; unfold mkZ; rw [<- en]
    rw [emd,emn] at g1 g2
    have o1:=qone_spec gl false (Dg.mag (Int.gcd n d : Int))
    have o2:=risone_spec gl false (Dg.mag (Int.gcd n d : Int))
    have v:=r2v_gcd gl r1 r2 z2 g2 o2
    by_cases hz : dl = []
    ·rw [decide_eq_true hz] at z1 v
     exact ⟨false,qv_zero gl s1 s2 z1,v,fun e => by cases e⟩
    ·rw [decide_eq_false hz] at z1 v
     have dpos : 0 < d:=by
      have : d ≠ 0:=fun e => hz (by rw [eld,e]; exact (mag_nil (az_nn 0)).2 rfl)
      omega
     refine ⟨_,qv_gcd gl s1 s2 z1 (qone_spec gl false dl) g1 o1 (fun e => ?_),v,fun e => ?_⟩
     ·have e1 : dl = [1]:=of_decide_eq_true e
      have e2 : d = 1:=(mag_is_one (g:=d) d0).1 (by rw [<- az_pos dpos,<- eld,e1])
      exact decide_eq_true ((mag_is_one (Int.natCast_nonneg _)).2 (by rw [e2,Int.gcd_one_right]; rfl))
     ·have e1 : Dg.mag (Int.gcd n d : Int) = [1]:=of_decide_eq_true e
      have e2:=(mag_is_one (Int.natCast_nonneg _)).1 e1
      refine ⟨n,d,?_,fn,fd,dpos,by omega,eln,eld⟩
      unfold mkR
      rw [<- en,<- ed,<- eln,<- eld]
end Ab
end
section
open Go Go.Proofs
namespace Ab
set_option maxRecDepth 100000
set_option maxHeartbeats 1000000
theorem r2valid_int (gl : List (Nat × AV)) {n d : Int} (hn : Fits n) (hd : Fits d) (h : 0 < d) (hg : Int.gcd n d = 1) : Spec Tryz.prog gl 79 [mkR n d] (.bool true):=by
 have r1:=rvalid_int gl hn
 have r2:=rvalid_int gl hd
 have g2:=rgcd_int gl hn hd
 have z2:=rzero_spec gl false (Dg.mag d)
 rw [decide_eq_false (show ¬ Dg.mag d = [] from fun e => by have:=(mag_nil (n:=d) (by omega)).1 e; omega)] at z2
 rw [hg,mkZ_nn (Int.natCast_nonneg 1),show ((1 : Nat) : Int) = 1 from rfl,mag_one] at g2
 rw [mkZ_nn (a:=d) (by omega)] at r2 g2
 rw [mkR_pos h]
 exact r2v_gcd gl r1 r2 z2 g2 (risone_spec gl false [1])
end Ab
end
