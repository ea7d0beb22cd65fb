import Derived.Test.YtpjjbhhoagocjaaGreatDoorXRatTot
open Go Go.Proofs
namespace Ab
set_option maxRecDepth 100000
set_option maxHeartbeats 1000000
theorem clo13_okc (gl : List (Nat × AV)) {F : FuncId} {xn yn zn : Bool} {xl yl zl : List Int} (hF : Spec Tryz.prog gl F [mkI xn xl,mkI yn yl] (.tup [mkI zn zl,.int .i64 0])) {tm : Nat -> AV} {hp : Nat -> Option Blk} {K : AV -> St -> Prop} (n : Nat) (he : hp 8 = some (.box [.int .i64 0])) (hc : hp 9 = some (.box [.fn F []]))
  (cl : ∀ k,k < 13 -> blB 13 (hp k) = true) (hK : K (mkI zn zl) ⟨tm,cutH 13 hp,13⟩) : Hn Tryz.prog T gl (n + 1) (.fn 110) [mkI xn xl,mkI yn yl,.bp 8 0,.bp 9 0] ⟨tm,hp,13⟩ K:=by
 obtain ⟨h0,rfl⟩:=put_known he hc
 refine Hn_cut Tryz.f110 Tryz.func110 fn_ok110 (by kernel_rfl) ?_
 refine brF ?_
 refine Hn_by (Exists.intro _ (And.intro hF ?_))
 refine And.intro (Or.inr rfl) (And.intro rfl (cut_K cl hK ?_))
 repeat (first | exact Old.refl | refine Old.new rfl ?_ | refine Old.same rfl ?_)
theorem clo13_ok (gl : List (Nat × AV)) {F : FuncId} {xn yn zn : Bool} {xl yl zl : List Int} (hF : Spec Tryz.prog gl F [mkI xn xl,mkI yn yl] (.tup [mkI zn zl,.int .i64 0])) {tm : Nat -> AV} {hp : Nat -> Option Blk} {K : AV -> St -> Prop} (n : Nat) (he : hp 8 = some (.box [.int .i64 0])) (hc : hp 9 = some (.box [.fn F []]))
  (cl : ∀ k,k < 13 -> blB 13 (hp k) = true) (dm : ∀ k,13 <= k -> hp k = none) (hK : K (mkI zn zl) ⟨tm,hp,13⟩) : Hn Tryz.prog T gl (n + 1) (.fn 110) [mkI xn xl,mkI yn yl,.bp 8 0,.bp 9 0] ⟨tm,hp,13⟩ K :=
 clo13_okc gl hF n he hc cl (by rw [cut_same dm]; exact hK)
theorem ratdiv_walk (gl : List (Nat × AV)) {an ad bn bd xn yn zn zd : Bool} {al am bl bm xl yl zl zm : List Int} (s : Spec Tryz.prog gl 108 [.sl [[.bool an,lim al,.bool ad,lim am],[.bool bn,lim bl,.bool bd,lim bm]]] (.bool true)) (z : Spec Tryz.prog gl 62 [mkI bn bl] (.bool false))
  (m1 : Spec Tryz.prog gl 28 [mkI an al,mkI bd bm] (.tup [mkI xn xl,.int .i64 0])) (m2 : Spec Tryz.prog gl 28 [mkI ad am,mkI bn bl] (.tup [mkI yn yl,.int .i64 0])) (rd : Spec Tryz.prog gl 71 [mkI xn xl,mkI yn yl] (mkQ zn zl zd zm)) :
  Spec Tryz.prog gl 123 [mkQ an al ad am,mkQ bn bl bd bm] (.tup [mkQ zn zl zd zm,.int .i64 0]):=by
 refine spec_fn T_ok mixed_ok 5 Tryz.func123 fn_ok123 (by kernel_rfl) ?_
 refine Hn_by (And.intro (Nat.le_refl 2) (Exists.intro _ (And.intro s ?_)))
 refine brT ?_
 refine brT ?_
 refine brT ?_
 refine Hn_by (Exists.intro _ (And.intro z ?_))
 refine brF ?_
 refine Hn_in Tryz.f56 Tryz.func56 fn_ok56 (by kernel_rfl) ?_
 refine Hn_by (And.intro (Nat.le_refl 2) (Exists.intro _ (And.intro s ?_)))
 refine brF ?_
 refine Hn_in Tryz.f109 Tryz.func109 fn_ok109 (by kernel_rfl) ?_
 refine And.intro (Or.inr rfl) ?_
 refine Hn_in Tryz.f109 Tryz.func109 fn_ok109 (by kernel_rfl) ?_
 refine And.intro (Or.inr rfl) ?_
 refine Hn_in Tryz.f149 Tryz.func149 fn_ok149 (by kernel_rfl) ?_
 refine clo13_okc gl m1 _ (by kernel_rfl) (by kernel_rfl) (clean_at (cleanB_ok (by kernel_rfl))) ?_
 refine And.intro (by kernel_rfl) ?_
 refine And.intro (by kernel_rfl) ?_
 refine And.intro (clean_at (cleanB_ok (by kernel_rfl))) ?_
 refine Exists.intro (mkI yn yl) (Exists.intro (none) (And.intro (by kernel_rfl) (And.intro ?_ (fun tm hp ag cl dm K' hK => clo13_ok gl m2 _ ((ag 8 (by kernel_rfl)).trans (by kernel_rfl)) ((ag 9 (by kernel_rfl)).trans (by kernel_rfl)) cl dm hK))))
 refine And.intro (Or.inr rfl) ?_
 refine brF ?_
 refine Hn_by (Exists.intro _ (And.intro rd ?_))
 refine And.intro (Or.inr rfl) ?_
 exact And.intro (Or.inr rfl) rfl
theorem ratdiv_int (gl : List (Nat × AV)) {a b c d : Int} (ha : Fits a) (hb : Fits b) (hc : Fits c) (hd : Fits d) (b0 : 0 < b) (d0 : 0 < d) (c0 : c ≠ 0) (g1 : Int.gcd a b = 1) (g2 : Int.gcd c d = 1) (hn : Fits (a * d)) (hm : Fits (b * c)) :
  Spec Tryz.prog gl 123 [mkR a b,mkR c d] (.tup [(if 0 < b * c then mkR (a * d / Int.gcd (a * d) (b * c)) (b * c / Int.gcd (a * d) (b * c)) else mkR (-(a * d) / Int.gcd (a * d) (b * c)) (-(b * c) / Int.gcd (a * d) (b * c))),.int .i64 0]):=by
 have s:=all_spec gl (ratvalid_int gl ha hb b0 g1) (ratvalid_int gl hc hd d0 g2)
 have z : Spec Tryz.prog gl 62 [mkI (decide (c < 0)) (Dg.mag (az c))] (.bool false):=by
  have:=qzero_spec gl (decide (c < 0)) (Dg.mag (az c))
  rwa [decide_eq_false (mag_ne c0)] at this
 have m1:=mul_int gl ha hd
 have m2:=mul_int gl hb hc
 rw [resZ_ok hn] at m1
 rw [resZ_ok hm] at m2
 by_cases h : 0 < b * c
 ·rw [if_pos h]
  exact ratdiv_walk gl s z m1 m2 (reduceq_int gl hn hm h)
 ·rw [if_neg h]
  have : b * c ≠ 0:=Int.mul_ne_zero (by omega) c0
  exact ratdiv_walk gl s z m1 m2 (reduceq_int2 gl hn hm (by omega))
end Ab
