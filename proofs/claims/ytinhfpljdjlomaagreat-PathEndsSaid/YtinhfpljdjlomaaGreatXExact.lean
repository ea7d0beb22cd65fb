import Derived.Test.YtinhfpljdjlomaaGreatXFloor
import Derived.Test.YtinhfpljdjlomaaGreatXExactP
open Go Go.Proofs
namespace Ab
set_option maxRecDepth 100000
set_option maxHeartbeats 1000000
theorem exact_walk {nn mn an bn on : Bool} {nl dl ml el al bl ol pl : List Int} {dn en pn : Bool} {k1 k2 : Int} (v : Spec Tryz.prog [] 64 [mkQ nn nl dn dl] (.bool true)) (mo : Spec Tryz.prog [] 66 [] (mkQ on ol pn pl))
  (m : Spec Tryz.prog [] 65 [mkQ nn nl dn dl,mkQ on ol pn pl] (.tup [mkQ mn ml en el,.int .i64 0]))
  (f1 : Spec Tryz.prog [] 67 [mkQ nn nl dn dl,.int .i64 24] (.tup [mkI an al,.int .i64 0])) (s1 : Spec Tryz.prog [] 68 [mkI an al] (.tup [.int .i64 k1,.bool true])) (h1 : -1152921504606846976 <= k1 ∧ k1 <= 1152921504606846976)
  (f2 : Spec Tryz.prog [] 67 [mkQ mn ml en el,.int .i64 24] (.tup [mkI bn bl,.int .i64 0])) (s2 : Spec Tryz.prog [] 68 [mkI bn bl] (.tup [.int .i64 k2,.bool true])) (h2 : -1152921504606846976 <= k2 ∧ k2 <= 1152921504606846976) :
  Spec Tryz.prog [] 37 [mkQ nn nl dn dl] (.tup [bx k1 (-k2) 0 0 false,.int .i64 0]):=by
 refine spec_fn T_ok mixed_ok 1 Tryz.func37 fn_ok37 (by kernel_rfl) ?_
 first | refine Exists.intro _ (And.intro (v) ?_) | refine Hn_by (Exists.intro _ (And.intro (v) ?_))
 repeat (first | refine gT ?_ | refine gF ?_ | refine brT ?_ | refine brF ?_)
 refine And.intro (by kernel_rfl) ?_
 repeat (first | refine gT ?_ | refine gF ?_ | refine brT ?_ | refine brF ?_ | refine And.intro rfl ?_)
 first | refine Exists.intro _ (And.intro (mo) ?_) | refine Hn_by (Exists.intro _ (And.intro (mo) ?_))
 repeat (first | refine gT ?_ | refine gF ?_ | refine brT ?_ | refine brF ?_ | refine And.intro rfl ?_)
 first | refine Exists.intro _ (And.intro (m) ?_) | refine Hn_by (Exists.intro _ (And.intro (m) ?_))
 repeat (first | refine gT ?_ | refine gF ?_ | refine brT ?_ | refine brF ?_ | refine And.intro rfl ?_)
 refine aw_loop (fun i : Nat => stOf [(2,.bp 1 0),(6,.bp 3 0),(28,.ms 4 0 2),(29,.int .i64 2),(30,.int .i64 (i : Int))] [(1,.box [.int .i64 0,.int .i64 0,.int .i64 0,.int .i64 0,.bool false]),(3,.box [.int .i64 (if 0 < i then k1 else 0),.int .i64 (if 1 < i then k2 else 0)]),(4,.arr (67,4) [[.bool nn,lim nl,.bool dn,lim dl],[.bool mn,lim ml,.bool en,lim el]] true)] (5 + 2 * i)) (fun i => i <= 2) (fun i => 2 - i) 0 (Nat.zero_le _)
  (le_by ⟨rfl,rfl,rfl,rfl,rfl,trivial⟩ ⟨rfl,rfl,rfl,trivial⟩ (Nat.le_refl _)) ?_
 intro i hi P hP
 obtain rfl | rfl | rfl : i = 0 ∨ i = 1 ∨ i = 2:=by omega
 ·repeat (first | refine gT ?_ | refine gF ?_ | refine brT ?_ | refine brF ?_)
  refine And.intro (by decide) (And.intro (by decide) (Exists.intro _ (And.intro rfl ?_)))
  repeat (first | refine gT ?_ | refine gF ?_ | refine brT ?_ | refine brF ?_)
  first | refine Exists.intro _ (And.intro (f1) ?_) | refine Hn_by (Exists.intro _ (And.intro (f1) ?_))
  repeat (first | refine gT ?_ | refine gF ?_ | refine brT ?_ | refine brF ?_)
  first | refine Exists.intro _ (And.intro (s1) ?_) | refine Hn_by (Exists.intro _ (And.intro (s1) ?_))
  repeat (first | refine gT ?_ | refine gF ?_ | refine brT ?_ | refine brF ?_)
  refine gr (fun g => ?_) (fun _ => ?_)
  ·have g' : k1 < -1152921504606846976:=g
   omega
  repeat (first | refine gT ?_ | refine gF ?_ | refine brT ?_ | refine brF ?_)
  refine br (fun g => ?_) (fun _ => ?_)
  ·have g' : k1 > 1152921504606846976:=g
   omega
  refine And.intro (by decide) (And.intro (by decide) ?_)
  repeat (first | refine gT ?_ | refine gF ?_ | refine brT ?_ | refine brF ?_)
  exact hP 1 _ (le_by ⟨rfl,rfl,rfl,rfl,rfl,trivial⟩ ⟨rfl,rfl,rfl,trivial⟩ (Nat.le_refl _)) (by decide) (by decide)
 ·repeat (first | refine gT ?_ | refine gF ?_ | refine brT ?_ | refine brF ?_)
  refine And.intro (by decide) (And.intro (by decide) (Exists.intro _ (And.intro rfl ?_)))
  repeat (first | refine gT ?_ | refine gF ?_ | refine brT ?_ | refine brF ?_)
  first | refine Exists.intro _ (And.intro (f2) ?_) | refine Hn_by (Exists.intro _ (And.intro (f2) ?_))
  repeat (first | refine gT ?_ | refine gF ?_ | refine brT ?_ | refine brF ?_)
  first | refine Exists.intro _ (And.intro (s2) ?_) | refine Hn_by (Exists.intro _ (And.intro (s2) ?_))
  repeat (first | refine gT ?_ | refine gF ?_ | refine brT ?_ | refine brF ?_)
  refine gr (fun g => ?_) (fun _ => ?_)
  ·have g' : k2 < -1152921504606846976:=g
   omega
  repeat (first | refine gT ?_ | refine gF ?_ | refine brT ?_ | refine brF ?_)
  refine br (fun g => ?_) (fun _ => ?_)
  ·have g' : k2 > 1152921504606846976:=g
   omega
  refine And.intro (by decide) (And.intro (by decide) ?_)
  repeat (first | refine gT ?_ | refine gF ?_ | refine brT ?_ | refine brF ?_)
  exact hP 2 _ (le_by ⟨rfl,rfl,rfl,rfl,rfl,trivial⟩ ⟨rfl,rfl,rfl,trivial⟩ (Nat.le_refl _)) (by decide) (by decide)
 ·clear hP
  repeat (first | refine gT ?_ | refine gF ?_ | refine brT ?_ | refine brF ?_)
  have e : w64 (0 - k2) = -k2:=by rw [w64_eq (by omega)]; omega
  refine And.intro (by decide) (And.intro (by decide) ?_)
  refine And.intro (by decide) (And.intro (by decide) ?_)
  refine And.intro (Or.inr rfl) ?_
  show AV.tup [bx k1 (w64 (0 - k2)) 0 0 false,AV.int .i64 0] = _
  rw [e]
theorem exact_big1 {nn mn an b1 on : Bool} {nl dl ml el al ol pl : List Int} {dn en pn : Bool} {k1 : Int} (v : Spec Tryz.prog [] 64 [mkQ nn nl dn dl] (.bool true)) (mo : Spec Tryz.prog [] 66 [] (mkQ on ol pn pl))
  (m : Spec Tryz.prog [] 65 [mkQ nn nl dn dl,mkQ on ol pn pl] (.tup [mkQ mn ml en el,.int .i64 0]))
  (f1 : Spec Tryz.prog [] 67 [mkQ nn nl dn dl,.int .i64 24] (.tup [mkI an al,.int .i64 0])) (s1 : Spec Tryz.prog [] 68 [mkI an al] (.tup [.int .i64 k1,.bool b1])) (h1 : b1 = false ∨ k1 < -1152921504606846976 ∨ k1 > 1152921504606846976) :
  Spec Tryz.prog [] 37 [mkQ nn nl dn dl] (.tup [bx 0 0 0 0 false,.int .i64 2]):=by
 refine spec_fn T_ok mixed_ok 1 Tryz.func37 fn_ok37 (by kernel_rfl) ?_
 first | refine Exists.intro _ (And.intro (v) ?_) | refine Hn_by (Exists.intro _ (And.intro (v) ?_))
 repeat (first | refine gT ?_ | refine gF ?_ | refine brT ?_ | refine brF ?_)
 refine And.intro (by kernel_rfl) ?_
 repeat (first | refine gT ?_ | refine gF ?_ | refine brT ?_ | refine brF ?_ | refine And.intro rfl ?_)
 first | refine Exists.intro _ (And.intro (mo) ?_) | refine Hn_by (Exists.intro _ (And.intro (mo) ?_))
 repeat (first | refine gT ?_ | refine gF ?_ | refine brT ?_ | refine brF ?_ | refine And.intro rfl ?_)
 first | refine Exists.intro _ (And.intro (m) ?_) | refine Hn_by (Exists.intro _ (And.intro (m) ?_))
 repeat (first | refine gT ?_ | refine gF ?_ | refine brT ?_ | refine brF ?_ | refine And.intro rfl ?_)
 refine aw_loop (fun _ : Unit => stOf [(2,.bp 1 0),(6,.bp 3 0),(28,.ms 4 0 2),(29,.int .i64 2),(30,.int .i64 0)] [(1,.box [.int .i64 0,.int .i64 0,.int .i64 0,.int .i64 0,.bool false]),(3,.box [.int .i64 0,.int .i64 0]),(4,.arr (67,4) [[.bool nn,lim nl,.bool dn,lim dl],[.bool mn,lim ml,.bool en,lim el]] true)] 5) (fun _ => True) (fun _ => 0) () trivial
  (le_by ⟨rfl,rfl,rfl,rfl,rfl,trivial⟩ ⟨rfl,rfl,rfl,trivial⟩ (Nat.le_refl _)) ?_
 intro _ _ P hP
 clear hP
 repeat (first | refine gT ?_ | refine gF ?_ | refine brT ?_ | refine brF ?_)
 refine And.intro (by decide) (And.intro (by decide) (Exists.intro _ (And.intro rfl ?_)))
 repeat (first | refine gT ?_ | refine gF ?_ | refine brT ?_ | refine brF ?_)
 first | refine Exists.intro _ (And.intro (f1) ?_) | refine Hn_by (Exists.intro _ (And.intro (f1) ?_))
 repeat (first | refine gT ?_ | refine gF ?_ | refine brT ?_ | refine brF ?_)
 first | refine Exists.intro _ (And.intro (s1) ?_) | refine Hn_by (Exists.intro _ (And.intro (s1) ?_))
 cases b1 with
 | false =>
  repeat (first | refine gT ?_ | refine gF ?_ | refine brT ?_ | refine brF ?_)
  exact And.intro (Or.inr rfl) rfl
 | true =>
  repeat (first | refine gT ?_ | refine gF ?_ | refine brT ?_ | refine brF ?_)
  refine gr (fun g => ?_) (fun g1 => ?_)
  ·repeat (first | refine gT ?_ | refine gF ?_ | refine brT ?_ | refine brF ?_)
   exact And.intro (Or.inr rfl) rfl
  repeat (first | refine gT ?_ | refine gF ?_ | refine brT ?_ | refine brF ?_)
  refine br (fun g => ?_) (fun g2 => ?_)
  ·exact And.intro (Or.inr rfl) rfl
  ·have g1' : ¬ k1 < -1152921504606846976:=g1
   have g2' : ¬ k1 > 1152921504606846976:=g2
   rcases h1 with h | h
   ·cases h
   ·omega
theorem exact_big2 {nn mn an bn on b2 : Bool} {nl dl ml el al bl ol pl : List Int} {dn en pn : Bool} {k1 k2 : Int} (v : Spec Tryz.prog [] 64 [mkQ nn nl dn dl] (.bool true)) (mo : Spec Tryz.prog [] 66 [] (mkQ on ol pn pl))
  (m : Spec Tryz.prog [] 65 [mkQ nn nl dn dl,mkQ on ol pn pl] (.tup [mkQ mn ml en el,.int .i64 0]))
  (f1 : Spec Tryz.prog [] 67 [mkQ nn nl dn dl,.int .i64 24] (.tup [mkI an al,.int .i64 0])) (s1 : Spec Tryz.prog [] 68 [mkI an al] (.tup [.int .i64 k1,.bool true])) (h1 : -1152921504606846976 <= k1 ∧ k1 <= 1152921504606846976)
  (f2 : Spec Tryz.prog [] 67 [mkQ mn ml en el,.int .i64 24] (.tup [mkI bn bl,.int .i64 0])) (s2 : Spec Tryz.prog [] 68 [mkI bn bl] (.tup [.int .i64 k2,.bool b2])) (h2 : b2 = false ∨ k2 < -1152921504606846976 ∨ k2 > 1152921504606846976) :
  Spec Tryz.prog [] 37 [mkQ nn nl dn dl] (.tup [bx 0 0 0 0 false,.int .i64 2]):=by
 refine spec_fn T_ok mixed_ok 1 Tryz.func37 fn_ok37 (by kernel_rfl) ?_
 first | refine Exists.intro _ (And.intro (v) ?_) | refine Hn_by (Exists.intro _ (And.intro (v) ?_))
 repeat (first | refine gT ?_ | refine gF ?_ | refine brT ?_ | refine brF ?_)
 refine And.intro (by kernel_rfl) ?_
 repeat (first | refine gT ?_ | refine gF ?_ | refine brT ?_ | refine brF ?_ | refine And.intro rfl ?_)
 first | refine Exists.intro _ (And.intro (mo) ?_) | refine Hn_by (Exists.intro _ (And.intro (mo) ?_))
 repeat (first | refine gT ?_ | refine gF ?_ | refine brT ?_ | refine brF ?_ | refine And.intro rfl ?_)
 first | refine Exists.intro _ (And.intro (m) ?_) | refine Hn_by (Exists.intro _ (And.intro (m) ?_))
 repeat (first | refine gT ?_ | refine gF ?_ | refine brT ?_ | refine brF ?_ | refine And.intro rfl ?_)
 refine aw_loop (fun i : Nat => stOf [(2,.bp 1 0),(6,.bp 3 0),(28,.ms 4 0 2),(29,.int .i64 2),(30,.int .i64 (i : Int))] [(1,.box [.int .i64 0,.int .i64 0,.int .i64 0,.int .i64 0,.bool false]),(3,.box [.int .i64 (if 0 < i then k1 else 0),.int .i64 (0)]),(4,.arr (67,4) [[.bool nn,lim nl,.bool dn,lim dl],[.bool mn,lim ml,.bool en,lim el]] true)] (5 + 2 * i)) (fun i => i <= 1) (fun i => 2 - i) 0 (Nat.zero_le _)
  (le_by ⟨rfl,rfl,rfl,rfl,rfl,trivial⟩ ⟨rfl,rfl,rfl,trivial⟩ (Nat.le_refl _)) ?_
 intro i hi P hP
 obtain rfl | rfl : i = 0 ∨ i = 1:=by omega
 ·repeat (first | refine gT ?_ | refine gF ?_ | refine brT ?_ | refine brF ?_)
  refine And.intro (by decide) (And.intro (by decide) (Exists.intro _ (And.intro rfl ?_)))
  repeat (first | refine gT ?_ | refine gF ?_ | refine brT ?_ | refine brF ?_)
  first | refine Exists.intro _ (And.intro (f1) ?_) | refine Hn_by (Exists.intro _ (And.intro (f1) ?_))
  repeat (first | refine gT ?_ | refine gF ?_ | refine brT ?_ | refine brF ?_)
  first | refine Exists.intro _ (And.intro (s1) ?_) | refine Hn_by (Exists.intro _ (And.intro (s1) ?_))
  repeat (first | refine gT ?_ | refine gF ?_ | refine brT ?_ | refine brF ?_)
  refine gr (fun g => ?_) (fun _ => ?_)
  ·have g' : k1 < -1152921504606846976:=g
   omega
  repeat (first | refine gT ?_ | refine gF ?_ | refine brT ?_ | refine brF ?_)
  refine br (fun g => ?_) (fun _ => ?_)
  ·have g' : k1 > 1152921504606846976:=g
   omega
  refine And.intro (by decide) (And.intro (by decide) ?_)
  repeat (first | refine gT ?_ | refine gF ?_ | refine brT ?_ | refine brF ?_)
  exact hP 1 _ (le_by ⟨rfl,rfl,rfl,rfl,rfl,trivial⟩ ⟨rfl,rfl,rfl,trivial⟩ (Nat.le_refl _)) (by decide) (by decide)
 ·clear hP
  repeat (first | refine gT ?_ | refine gF ?_ | refine brT ?_ | refine brF ?_)
  refine And.intro (by decide) (And.intro (by decide) (Exists.intro _ (And.intro rfl ?_)))
  repeat (first | refine gT ?_ | refine gF ?_ | refine brT ?_ | refine brF ?_)
  first | refine Exists.intro _ (And.intro (f2) ?_) | refine Hn_by (Exists.intro _ (And.intro (f2) ?_))
  repeat (first | refine gT ?_ | refine gF ?_ | refine brT ?_ | refine brF ?_)
  first | refine Exists.intro _ (And.intro (s2) ?_) | refine Hn_by (Exists.intro _ (And.intro (s2) ?_))
  cases b2 with
  | false =>
   repeat (first | refine gT ?_ | refine gF ?_ | refine brT ?_ | refine brF ?_)
   exact And.intro (Or.inr rfl) rfl
  | true =>
   repeat (first | refine gT ?_ | refine gF ?_ | refine brT ?_ | refine brF ?_)
   refine gr (fun g => ?_) (fun g1 => ?_)
   ·repeat (first | refine gT ?_ | refine gF ?_ | refine brT ?_ | refine brF ?_)
    exact And.intro (Or.inr rfl) rfl
   repeat (first | refine gT ?_ | refine gF ?_ | refine brT ?_ | refine brF ?_)
   refine br (fun g => ?_) (fun g2 => ?_)
   ·exact And.intro (Or.inr rfl) rfl
   ·have g1' : ¬ k2 < -1152921504606846976:=g1
    have g2' : ¬ k2 > 1152921504606846976:=g2
    rcases h2 with h | h
    ·cases h
    ·omega
theorem neg_rat {n d : Int} (hn : Fits n) (hd : Fits d) (d0 : 0 < d) (hg : Int.gcd n d = 1) : Spec Tryz.prog [] 65 [mkR n d,mkR (-1) 1] (.tup [mkR (-n) d,.int .i64 0]):=by
 have f1 : Fits (-1):=fits_i64 (by decide) (by decide)
 have f2 : Fits 1:=fits_i64 (by decide) (by decide)
 have e1 : n * -1 = -n:=by omega
 have fn : Fits (n * -1):=by rw [e1]; unfold Fits; rw [show az (-n) = az n by unfold az; omega]; exact hn
 have m:=ratmul_int [] hn hd f1 f2 d0 (by decide) hg rfl fn (by rw [Int.mul_one]; exact hd)
 rw [e1,Int.mul_one,Int.neg_gcd,hg,show ((1 : Nat) : Int) = 1 from rfl,Int.ediv_one,Int.ediv_one] at m
 exact m
theorem small_cases {z : Int} (hz : Fits z) : ∃ k b,Spec Tryz.prog [] 68 [mkZ z] (.tup [.int .i64 k,.bool b]) ∧ ((-MF <= z ∧ z <= MF) -> k = z ∧ b = true) ∧ (¬ (-MF <= z ∧ z <= MF) -> b = false ∨ k < -1152921504606846976 ∨ k > 1152921504606846976):=by
 obtain ⟨s1,s2⟩:=small_int [] hz
 unfold MF
 by_cases h : -9223372036854775808 <= z ∧ z < 9223372036854775808
 ·exact ⟨_,_,s1 h,fun _ => ⟨rfl,rfl⟩,fun g => .inr (by omega)⟩
 ·exact ⟨_,_,s2 h,fun g => absurd g (by omega),fun _ => .inl rfl⟩
theorem exact_int {n d : Int} (hn : Fits n) (hd : Fits d) (d0 : 0 < d) (hg : Int.gcd n d = 1) (hs : Fits (n * 16777216)) :
  (ExOk n d -> Spec Tryz.prog [] 37 [mkR n d] (.tup [(exB n d).av,.int .i64 0])) ∧ (¬ ExOk n d -> Spec Tryz.prog [] 37 [mkR n d] (.tup [bx 0 0 0 0 false,.int .i64 2])):=by
 have fn : Fits (-n):=by unfold Fits; rw [show az (-n) = az n by unfold az; omega]; exact hn
 have hs2 : Fits (-n * 16777216):=by unfold Fits; rw [show az (-n * 16777216) = az (n * 16777216) by unfold az; omega]; exact hs
 have hg2 : Int.gcd (-n) d = 1:=by rw [Int.neg_gcd]; exact hg
 have v:=ratvalid_int [] hn hd d0 hg
 have mo:=minusOne_spec []
 have m:=neg_rat hn hd d0 hg
 have f1:=floor_int [] hn hd d0 hg hs
 have f2:=floor_int [] fn hd d0 hg2 hs2
 obtain ⟨k1,b1,s1,p1,q1⟩:=small_cases (quo_fits d0 hs)
 obtain ⟨k2,b2,s2,p2,q2⟩:=small_cases (quo_fits d0 hs2)
 have e1 : n * 16777216 / d = fl n d:=rfl
 have e2 : -n * 16777216 / d = fl (-n) d:=rfl
 rw [e1] at f1 s1 p1 q1
 rw [e2] at f2 s2 p2 q2
 by_cases h1 : -MF <= fl n d ∧ fl n d <= MF
 ·obtain ⟨rfl,rfl⟩:=p1 h1
  by_cases h2 : -MF <= fl (-n) d ∧ fl (-n) d <= MF
  ·obtain ⟨rfl,rfl⟩:=p2 h2
   exact ⟨fun _ => exact_walk v mo m f1 s1 h1 f2 s2 h2,fun g => absurd ⟨h1,h2⟩ g⟩
  ·exact ⟨fun g => absurd g.2 h2,fun _ => exact_big2 v mo m f1 s1 h1 f2 s2 (q2 h2)⟩
 ·exact ⟨fun g => absurd g.1 h1,fun _ => exact_big1 v mo m f1 s1 (q1 h1)⟩
end Ab
