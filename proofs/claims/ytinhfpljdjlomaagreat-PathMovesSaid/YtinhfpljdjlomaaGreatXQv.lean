import Derived.Test.YtinhfpljdjlomaaGreatXGs
open Go Go.Proofs
namespace Ab
set_option maxRecDepth 100000
set_option maxHeartbeats 1000000
abbrev qr (n d : Int) : List AV:=[.bool (decide (n < 0)),lim (Dg.mag (az n)),.bool (decide (d < 0)),lim (Dg.mag (az d))]
def QD (r : List AV) : Prop:=∃ nn nl dn dl,r = [.bool nn,lim nl,.bool dn,lim dl] ∧ Dg.D nl ∧ Dg.D dl
def Qn (n d : Int) : Prop:=Fits n ∧ Fits d ∧ 0 < d ∧ Int.gcd n d = 1
def Qok (r : List AV) : Prop:=∃ n d,r = qr n d ∧ Qn n d
noncomputable def qB (r : List AV) : Bool:=@decide (Qok r) (Classical.propDecidable _)
theorem qB_true {r : List AV} (h : Qok r) : qB r = true:=@decide_eq_true _ (Classical.propDecidable _) h
theorem qB_false {r : List AV} (h : ¬ Qok r) : qB r = false:=@decide_eq_false _ (Classical.propDecidable _) h
theorem qB_iff {r : List AV} : qB r = true ↔ Qok r:=@decide_eq_true_iff _ (Classical.propDecidable _)
theorem irows_inj {k : IntKind} {a b : List Int} (h : irows k a = irows k b) : a = b:=by
 unfold irows at h
 refine (List.map_inj_right fun x y e => ?_).1 h
 simp only [List.cons.injEq,AV.int.injEq,and_true,true_and] at e
 exact e
theorem ivalid_big (gl : List (Nat × AV)) (neg : Bool) (l : List Int) (h0 : 128 < l.length) : Spec Tryz.prog gl 90 [mkI neg l] (.bool false):=by
 refine spec_fn T_ok mixed_ok 0 Tryz.func90 fn_ok90 (by kernel_rfl) ?_
 refine brE (fun g => ?_) (fun _ => ?_)
 ·have g' : ((irows .u32 l).length : Int) = 0:=g
  rw [irows_len] at g'
  omega
 refine br (fun g => ?_) (fun g => ?_)
 ·have g' : ((irows .u32 l).length : Int) <= 128:=g
  rw [irows_len] at g'
  omega
 ·repeat (first | refine gT ?_ | refine gF ?_ | refine brT ?_ | refine brF ?_)
  exact And.intro (Or.inr rfl) rfl
theorem rvalid_big (gl : List (Nat × AV)) (neg : Bool) (l : List Int) (h0 : 128 < l.length) : Spec Tryz.prog gl 111 [mkI neg l] (.bool false):=by
 refine spec_fn T_ok mixed_ok 0 Tryz.func111 fn_ok111 (by kernel_rfl) ?_
 refine br (fun g => ?_) (fun g => ?_)
 ·repeat (first | refine gT ?_ | refine gF ?_ | refine brT ?_ | refine brF ?_)
  exact And.intro (Or.inr rfl) rfl
 ·have g' : ¬ ((irows .u32 l).length : Int) > 128:=g
  rw [irows_len] at g'
  omega
theorem qvalid_tot (gl : List (Nat × AV)) {r : List AV} (h : QD r) : Spec Tryz.prog gl 64 [.agg r] (.bool (qB r)) ∧ Spec Tryz.prog gl 79 [.agg r] (.bool (qB r)):=by
 by_cases hq : Qok r
 ·rw [qB_true hq]
  obtain ⟨n,d,rfl,h1,h2,h3,h4⟩:=hq
  exact ⟨ratvalid_int gl h1 h2 h3 h4,r2valid_int gl h1 h2 h3 h4⟩
 ·rw [qB_false hq]
  obtain ⟨nn,nl,dn,dl,rfl,hn,hd⟩:=h
  by_cases l1 : nl.length <= 128
  ·by_cases l2 : dl.length <= 128
   ·obtain ⟨b,v1,v2,g⟩:=qvalid_any gl (nn:=nn) (dn:=dn) hn hd l1 l2
    cases b with
    | false => exact ⟨v1,v2⟩
    | true =>
     obtain ⟨n,d,e,f1,f2,f3,f4,_⟩:=g rfl
     exact absurd ⟨n,d,by injection e,f1,f2,f3,f4⟩ hq
   ·have s1:=ivalid_any gl nn nl l1
    have r1:=rvalid_any gl nn nl l1
    have s2:=ivalid_big gl dn dl (by omega)
    have r2:=rvalid_big gl dn dl (by omega)
    cases hv : vB nn nl with
    | false => rw [hv] at s1 r1; exact ⟨qv_num gl s1,r2v_num gl r1 r2⟩
    | true => rw [hv] at s1 r1; exact ⟨qv_den gl s1 s2,r2v_den gl r1 r2⟩
  ·have s1:=ivalid_big gl nn nl (by omega)
   have r1:=rvalid_big gl nn nl (by omega)
   refine ⟨qv_num gl s1,?_⟩
   by_cases l2 : dl.length <= 128
   ·exact r2v_num gl r1 (rvalid_any gl dn dl l2)
   ·exact r2v_num gl r1 (rvalid_big gl dn dl (by omega))
end Ab
