import Derived.Test.YtinhfpljdjlomaaGreatXRatSub
import Derived.Test.YtinhfpljdjlomaaGreatXQv
open Go Go.Proofs
namespace Ab
set_option maxRecDepth 100000
set_option maxHeartbeats 1000000
theorem resZ_bad {z : Int} (h : ¬ Fits z) : resZ z = .tup [mkI false [],.int .i64 2]:=by unfold resZ; rw [if_pos (by unfold Fits at h; omega)]
theorem rfit_bad (gl : List (Nat × AV)) {neg : Bool} {x : Int} (hx : 0 <= x) (h : 128 < (Dg.mag x).length) (h2 : (Dg.mag x).length <= 1000) : Spec Tryz.prog gl 151 [.bool neg,lim (Dg.mag x)] (.tup [mkI false [],.int .i64 2]):=by
 have s:=rtrim_spec gl (Dg.mag x) (by omega)
 rw [Dg.trim_mag (Dg.magD x),Dg.magV hx] at s
 refine spec_fn T_ok mixed_ok 0 Tryz.func151 fn_ok151 (by kernel_rfl) ?_
 first | refine Exists.intro _ (And.intro (s) ?_) | refine Hn_by (Exists.intro _ (And.intro (s) ?_))
 refine br (fun _ => ?_) (fun g => ?_)
 ·exact And.intro (Or.inr rfl) rfl
 ·have : ¬ ((irows .u32 (Dg.mag x)).length : Int) > 128:=g
  rw [irows_len] at this
  omega
theorem rfit_tot (gl : List (Nat × AV)) {neg : Bool} {x z : Int} (hx : 0 <= x) (hz : sg neg x = z) (h2 : (Dg.mag x).length <= 1000) : ∃ zn zl ec,resZ z = .tup [mkI zn zl,.int .i64 ec] ∧ Spec Tryz.prog gl 151 [.bool neg,lim (Dg.mag x)] (.tup [mkI zn zl,.int .i64 ec]):=by
 by_cases h : Fits z
 ·exact ⟨_,_,_,resZ_ok h,rfit_int gl hx hz h⟩
 ·have e : az z = x:=by rw [<- hz]; unfold sg az; split <;> omega
  exact ⟨_,_,_,resZ_bad h,rfit_bad gl hx (by unfold Fits at h; rw [e] at h; omega) h2⟩
theorem mag_pow {x : Int} {k : Nat} (hx : 0 <= x) (h : x < Dg.B ^ k) : (Dg.mag x).length <= k:=Dg.mag_len_lt hx h
theorem az_pow {a : Int} (h : Fits a) : az a < Dg.B ^ 128:=by
 have a1:=Dg.val_lt (Dg.magD (az a))
 rw [Dg.magV (az_nn a)] at a1
 refine Int.lt_of_lt_of_le a1 ?_
 rw [pow_B,pow_B]
 exact two_pow_le (by unfold Fits at h; omega)
theorem rmul_tot (gl : List (Nat × AV)) {a b : Int} (ha : Fits a) (hb : Fits b) : Spec Tryz.prog gl 125 [mkZ a,mkZ b] (resZ (a * b)):=by
 have la:=fits_len ha
 have lb:=fits_len hb
 have tm:=rtimes_spec gl (Dg.magD (az a)) (Dg.magD (az b)) (by omega) (by omega)
 rw [val_az,val_az] at tm
 have hl : (Dg.mag (az a * az b)).length <= 256:=mag_pow (Int.mul_nonneg (az_nn a) (az_nn b)) (by
  rw [show (256 : Nat) = 128 + 128 from rfl,Int.pow_add]
  exact Int.lt_of_le_of_lt (Int.mul_le_mul_of_nonneg_right (Int.le_of_lt (az_pow ha)) (az_nn b)) (Int.mul_lt_mul_of_pos_left (az_pow hb) (Dg.pow_pos 128)))
 obtain ⟨zn,zl,ec,e,ft⟩:=rfit_tot gl (Int.mul_nonneg (az_nn a) (az_nn b)) (sign_mul a b) (by omega)
 rw [e]
 exact rmul_walk gl (rvalid_int gl ha) (rvalid_int gl hb) tm ft
theorem radd_tot (gl : List (Nat × AV)) {a b : Int} (ha : Fits a) (hb : Fits b) : Spec Tryz.prog gl 161 [mkZ a,mkZ b] (resZ (a + b)):=by
 have la:=fits_len ha
 have lb:=fits_len hb
 have v1:=rvalid_int gl ha
 have v2:=rvalid_int gl hb
 have na:=az_nn a
 have nb:=az_nn b
 have pa:=az_pow ha
 have pb:=az_pow hb
 have p2 : 2 * Dg.B ^ 128 <= Dg.B ^ 129:=by
  have d : Dg.B ^ 129 = Dg.B ^ 128 * Dg.B:=Int.pow_succ _ _
  have e : (0 : Int) < Dg.B ^ 128:=Dg.pow_pos 128
  rw [d]
  simp only [Dg.B] at *
  omega
 unfold mkZ at v1 v2 ⊢
 by_cases hs : decide (a < 0) = decide (b < 0)
 ·have pm:=plus_spec gl (Dg.magD (az a)) (Dg.magD (az b)) (by omega) (by omega)
  rw [val_az,val_az] at pm
  obtain ⟨zn,zl,ec,er,ft⟩:=rfit_tot gl (neg:=decide (a < 0)) (x:=az a + az b) (z:=a + b) (by omega) (by
   have:=decide_eq_decide.1 hs
   unfold sg az
   by_cases h : a < 0
   ·rw [decide_eq_true h]; simp only [if_true]; omega
   ·rw [decide_eq_false h]; simp only [Bool.false_eq_true,if_false]; omega) (Nat.le_trans (mag_pow (k:=129) (by omega) (by omega)) (by decide))
  rw [<- hs] at v2 ⊢
  rw [er]
  exact radd_same gl v1 v2 pm ft
 ·have hb' : decide (b < 0) = !decide (a < 0):=by
   revert hs
   cases decide (a < 0) <;> cases decide (b < 0) <;> simp
  have od:=order_spec gl (Dg.magD (az a)) (Dg.magD (az b)) (Dg.magC _) (Dg.magC _) (by omega)
  rw [val_az,val_az] at od
  rw [hb'] at v2 ⊢
  by_cases hc : az b <= az a
  ·have mi:=minus_spec gl (Dg.magD (az a)) (Dg.magD (az b)) (by omega) (mag_le nb hc) (by rw [val_az,val_az]; exact hc)
   rw [val_az,val_az] at mi
   obtain ⟨zn,zl,ec,er,ft⟩:=rfit_tot gl (neg:=decide (a < 0)) (x:=az a - az b) (z:=a + b) (by omega) (by
    unfold sg
    by_cases h : a < 0
    ·rw [decide_eq_true h] at hb' ⊢
     have:=of_decide_eq_false hb'
     unfold az; simp only [if_true]; omega
    ·rw [decide_eq_false h] at hb' ⊢
     have:=of_decide_eq_true hb'
     unfold az; simp only [Bool.false_eq_true,if_false]; omega) (Nat.le_trans (mag_pow (k:=129) (by omega) (by omega)) (by decide))
   rw [er]
   exact radd_ge gl v1 v2 od (by unfold Dg.cmp; rw [if_neg (by omega)]; split <;> decide) mi ft
  ·have mi:=minus_spec gl (Dg.magD (az b)) (Dg.magD (az a)) (by omega) (mag_le na (by omega)) (by rw [val_az,val_az]; omega)
   rw [val_az,val_az] at mi
   obtain ⟨zn,zl,ec,er,ft⟩:=rfit_tot gl (neg:=!decide (a < 0)) (x:=az b - az a) (z:=a + b) (by omega) (by
    unfold sg
    by_cases h : a < 0
    ·rw [decide_eq_true h] at hb' ⊢
     have:=of_decide_eq_false hb'
     unfold az; simp only [Bool.not_true,Bool.false_eq_true,if_false]; omega
    ·rw [decide_eq_false h] at hb' ⊢
     have:=of_decide_eq_true hb'
     unfold az; simp only [Bool.not_false,if_true]; omega) (Nat.le_trans (mag_pow (k:=129) (by omega) (by omega)) (by decide))
   rw [er]
   exact radd_lt gl v1 v2 od (by unfold Dg.cmp; rw [if_pos (by omega)]; decide) mi ft
def ftB (z : Int) : Bool:=decide ((Dg.mag (az z)).length <= 128)
theorem ftB_iff {z : Int} : ftB z = true ↔ Fits z:=by show decide ((Dg.mag (az z)).length <= 128) = true ↔ (Dg.mag (az z)).length <= 128; exact decide_eq_true_iff
theorem ftB_no {z : Int} (h : ftB z = false) : ¬ Fits z:=fun hf => by
 unfold ftB at h
 have:=of_decide_eq_false h
 exact this hf
def resQ (n d : Int) (ok : Bool) : AV:=match ok with
 | true => .tup [mkR (n / Int.gcd n d) (d / Int.gcd n d),.int .i64 0]
 | false => badQ
def mulR (a b c d : Int) : AV:=resQ (a * c) (b * d) (and (ftB (a * c)) (ftB (b * d)))
def addR (a b c d : Int) : AV:=resQ (a * d + c * b) (b * d) (and (ftB (a * d)) (and (ftB (c * b)) (and (ftB (a * d + c * b)) (ftB (b * d)))))
def subR (a b c d : Int) : AV:=resQ (a * d - c * b) (b * d) (and (ftB (a * d)) (and (ftB (c * b)) (and (ftB (a * d - c * b)) (ftB (b * d)))))
theorem qn_reduce {n d : Int} (hn : Fits n) (hd : Fits d) (h : 0 < d) : Qn (n / Int.gcd n d) (d / Int.gcd n d):=by
 have g0:=gcd_pos (n:=n) h
 have dv:=Int.gcd_dvd_right n d
 refine ⟨quo_fits g0 hn,quo_fits g0 hd,Int.ediv_pos_of_pos_of_dvd h (by omega) dv,?_⟩
 exact Int.gcd_ediv_gcd_ediv_gcd (by omega)
theorem ratmul_tot (gl : List (Nat × AV)) {a b c d : Int} (h1 : Qn a b) (h2 : Qn c d) : Spec Tryz.prog gl 65 [mkR a b,mkR c d] (mulR a b c d):=by
 obtain ⟨ha,hb,b0,g1⟩:=h1
 obtain ⟨hc,hd,d0,g2⟩:=h2
 have s:=all_spec gl (ratvalid_int gl ha hb b0 g1) (ratvalid_int gl hc hd d0 g2)
 have m1:=mul_int gl ha hc
 have m2:=mul_int gl hb hd
 unfold mulR
 cases e1 : ftB (a * c) with
 | false => rw [resZ_bad (ftB_no e1)] at m1; exact ratmul_bad1 gl s m1
 | true =>
 rw [resZ_ok (ftB_iff.1 e1)] at m1
 cases e2 : ftB (b * d) with
 | false => rw [resZ_bad (ftB_no e2)] at m2; exact ratmul_bad2 gl s m1 m2
 | true => exact ratmul_int gl ha hb hc hd b0 d0 g1 g2 (ftB_iff.1 e1) (ftB_iff.1 e2)
theorem ratadd_tot (gl : List (Nat × AV)) {a b c d : Int} (h1 : Qn a b) (h2 : Qn c d) : Spec Tryz.prog gl 75 [mkR a b,mkR c d] (addR a b c d):=by
 obtain ⟨ha,hb,b0,g1⟩:=h1
 obtain ⟨hc,hd,d0,g2⟩:=h2
 have s:=all_spec gl (ratvalid_int gl ha hb b0 g1) (ratvalid_int gl hc hd d0 g2)
 have m1:=mul_int gl ha hd
 have m2:=mul_int gl hc hb
 have m3:=mul_int gl hb hd
 unfold addR
 cases e1 : ftB (a * d) with
 | false => rw [resZ_bad (ftB_no e1)] at m1; exact ratadd_bad1 gl s m1
 | true =>
 rw [resZ_ok (ftB_iff.1 e1)] at m1
 cases e2 : ftB (c * b) with
 | false => rw [resZ_bad (ftB_no e2)] at m2; exact ratadd_bad2 gl s m1 m2
 | true =>
 rw [resZ_ok (ftB_iff.1 e2)] at m2
 have a1:=add_int gl (ftB_iff.1 e1) (ftB_iff.1 e2)
 cases e3 : ftB (a * d + c * b) with
 | false => rw [resZ_bad (ftB_no e3)] at a1; exact ratadd_bad3 gl s m1 m2 a1
 | true =>
 rw [resZ_ok (ftB_iff.1 e3)] at a1
 cases e4 : ftB (b * d) with
 | false => rw [resZ_bad (ftB_no e4)] at m3; exact ratadd_bad4 gl s m1 m2 a1 m3
 | true => exact ratadd_int gl ha hb hc hd b0 d0 g1 g2 (ftB_iff.1 e1) (ftB_iff.1 e2) (ftB_iff.1 e3) (ftB_iff.1 e4)
theorem ratsub_tot (gl : List (Nat × AV)) {a b c d : Int} (h1 : Qn a b) (h2 : Qn c d) : Spec Tryz.prog gl 74 [mkR a b,mkR c d] (subR a b c d):=by
 obtain ⟨ha,hb,b0,g1⟩:=h1
 obtain ⟨hc,hd,d0,g2⟩:=h2
 have s:=all_spec gl (ratvalid_int gl ha hb b0 g1) (ratvalid_int gl hc hd d0 g2)
 have m1:=mul_int gl ha hd
 have m2:=mul_int gl hc hb
 have m3:=mul_int gl hb hd
 unfold subR
 cases e1 : ftB (a * d) with
 | false => rw [resZ_bad (ftB_no e1)] at m1; exact ratsub_bad1 gl s m1 (qneg_zero gl false)
 | true =>
 rw [resZ_ok (ftB_iff.1 e1)] at m1
 cases e2 : ftB (c * b) with
 | false => rw [resZ_bad (ftB_no e2)] at m2; exact ratsub_bad2 gl s m1 m2 (qneg_zero gl false)
 | true =>
 rw [resZ_ok (ftB_iff.1 e2)] at m2
 have ng:=qneg_int gl (ftB_iff.1 e2)
 have a1:=add_int gl (ftB_iff.1 e1) (fits_neg (ftB_iff.1 e2))
 rw [show a * d + -(c * b) = a * d - c * b by omega] at a1
 cases e3 : ftB (a * d - c * b) with
 | false => rw [resZ_bad (ftB_no e3)] at a1; exact ratsub_bad3 gl s m1 m2 ng a1
 | true =>
 rw [resZ_ok (ftB_iff.1 e3)] at a1
 cases e4 : ftB (b * d) with
 | false => rw [resZ_bad (ftB_no e4)] at m3; exact ratsub_bad4 gl s m1 m2 ng a1 m3
 | true => exact ratsub_int gl ha hb hc hd b0 d0 g1 g2 (ftB_iff.1 e1) (ftB_iff.1 e2) (ftB_iff.1 e3) (ftB_iff.1 e4)
end Ab
