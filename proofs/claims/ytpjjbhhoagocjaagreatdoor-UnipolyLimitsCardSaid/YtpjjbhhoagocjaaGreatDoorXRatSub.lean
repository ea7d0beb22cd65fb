import Derived.Test.YtpjjbhhoagocjaaGreatDoorXGe
open Go Go.Proofs
namespace Ab
set_option maxRecDepth 100000
set_option maxHeartbeats 1000000
section
variable (gl : List (Nat × AV)) {an ad bn bd xn yn vn wn sn zn zd : Bool} {al am bl bm xl yl vl wl sl zl zm : List Int} (s : Spec Tryz.prog gl 108 [.sl [[.bool an,lim al,.bool ad,lim am],[.bool bn,lim bl,.bool bd,lim bm]]] (.bool true))
include s
theorem ratsub_walk (m1 : Spec Tryz.prog gl 28 [mkI an al,mkI bd bm] (.tup [mkI xn xl,.int .i64 0])) (m2 : Spec Tryz.prog gl 28 [mkI bn bl,mkI ad am] (.tup [mkI yn yl,.int .i64 0])) (ng : Spec Tryz.prog gl 120 [mkI yn yl] (mkI vn vl)) (a1 : Spec Tryz.prog gl 29 [mkI xn xl,mkI vn vl] (.tup [mkI sn sl,.int .i64 0])) (m3 : Spec Tryz.prog gl 28 [mkI ad am,mkI bd bm] (.tup [mkI wn wl,.int .i64 0])) (rd : Spec Tryz.prog gl 71 [mkI sn sl,mkI wn wl] (mkQ zn zl zd zm)) :
  Spec Tryz.prog gl 86 [mkQ an al ad am,mkQ bn bl bd bm] (.tup [mkQ zn zl zd zm,.int .i64 0]):=by
 refine spec_fn T_ok mixed_ok 5 Tryz.func86 fn_ok86 (by kernel_rfl) ?_
 refine Hn_in Tryz.f56 Tryz.func56 fn_ok56 (by kernel_rfl) ?_
 refine Hn_by (And.intro (Nat.le_refl 2) (Exists.intro _ (And.intro s ?_)))
 refine brF ?_
 refine Hn_in Tryz.f109 Tryz.func109 fn_ok109 (by kernel_rfl) ?_
 refine And.intro (Or.inr rfl) ?_
 refine Hn_in Tryz.f109 Tryz.func109 fn_ok109 (by kernel_rfl) ?_
 refine And.intro (Or.inr rfl) ?_
 refine Hn_in Tryz.f125 Tryz.func125 fn_ok125 (by kernel_rfl) ?_
 refine And.intro (by kernel_rfl) ?_
 refine And.intro (by kernel_rfl) ?_
 refine And.intro (by kernel_rfl) ?_
 refine And.intro (clean_at (cleanB_ok (by kernel_rfl))) ?_
 refine Exists.intro (mkI xn xl) (Exists.intro (none) (And.intro (by kernel_rfl) (And.intro ?_ (fun tm hp ag cl dm K' hK => clo148_ok gl m1 _ ((ag 7 (by kernel_rfl)).trans (by kernel_rfl)) ((ag 8 (by kernel_rfl)).trans (by kernel_rfl)) cl dm hK))))
 refine And.intro (by kernel_rfl) ?_
 refine And.intro (by kernel_rfl) ?_
 refine And.intro (clean_at (cleanB_ok (by kernel_rfl))) ?_
 refine Exists.intro (mkI yn yl) (Exists.intro (none) (And.intro (by kernel_rfl) (And.intro ?_ (fun tm hp ag cl dm K' hK => clo148_ok gl m2 _ ((ag 7 (by kernel_rfl)).trans (by kernel_rfl)) ((ag 8 (by kernel_rfl)).trans (by kernel_rfl)) cl dm hK))))
 refine And.intro (by kernel_rfl) ?_
 refine And.intro (by kernel_rfl) ?_
 refine Exists.intro _ (And.intro ng ?_)
 refine clo149_okc gl a1 _ (by kernel_rfl) (by kernel_rfl) (clean_at (cleanB_ok (by kernel_rfl))) ?_
 refine And.intro (by kernel_rfl) ?_
 refine And.intro (by kernel_rfl) ?_
 refine And.intro (clean_at (cleanB_ok (by kernel_rfl))) ?_
 refine Exists.intro (mkI wn wl) (Exists.intro (none) (And.intro (by kernel_rfl) (And.intro ?_ (fun tm hp ag cl dm K' hK => clo148_ok gl m3 _ ((ag 7 (by kernel_rfl)).trans (by kernel_rfl)) ((ag 8 (by kernel_rfl)).trans (by kernel_rfl)) cl dm hK))))
 refine And.intro (Or.inr rfl) ?_
 refine brF ?_
 refine Hn_by (Exists.intro _ (And.intro rd ?_))
 refine And.intro (Or.inr rfl) ?_
 exact And.intro (Or.inr rfl) rfl
end
theorem fits_neg {z : Int} (h : Fits z) : Fits (-z):=by unfold Fits; rw [show az (-z) = az z by unfold az; omega]; exact h
theorem ratsub_int (gl : List (Nat × AV)) {a b c d : Int} (ha : Fits a) (hb : Fits b) (hc : Fits c) (hd : Fits d) (b0 : 0 < b) (d0 : 0 < d) (g1 : Int.gcd a b = 1) (g2 : Int.gcd c d = 1) (h1 : Fits (a * d)) (h2 : Fits (c * b)) (hn : Fits (a * d - c * b)) (hm : Fits (b * d)) :
  Spec Tryz.prog gl 86 [mkR a b,mkR c d] (.tup [mkR ((a * d - c * b) / Int.gcd (a * d - c * b) (b * d)) (b * d / Int.gcd (a * d - c * b) (b * d)),.int .i64 0]):=by
 have m1:=mul_int gl ha hd
 have m2:=mul_int gl hc hb
 have m3:=mul_int gl hb hd
 have ng:=qneg_int gl h2
 have a1:=add_int gl h1 (fits_neg h2)
 rw [resZ_ok h1] at m1
 rw [resZ_ok h2] at m2
 rw [resZ_ok hm] at m3
 rw [show a * d + -(c * b) = a * d - c * b by omega,resZ_ok hn] at a1
 exact ratsub_walk gl (all_spec gl (ratvalid_int gl ha hb b0 g1) (ratvalid_int gl hc hd d0 g2)) m1 m2 ng a1 m3 (reduceq_int gl hn hm (Int.mul_pos b0 d0))
end Ab
