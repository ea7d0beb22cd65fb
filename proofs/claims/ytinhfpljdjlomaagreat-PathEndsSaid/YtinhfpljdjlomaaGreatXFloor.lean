import Derived.Test.YtinhfpljdjlomaaGreatXGr
open Go Go.Proofs
namespace Ab
set_option maxRecDepth 100000
set_option maxHeartbeats 1000000
theorem small_no (gl : List (Nat × AV)) {neg : Bool} {l : List Int} (v : Spec Tryz.prog gl 90 [mkI neg l] (.bool true)) (h : (irows .u32 l).length > 2) : Spec Tryz.prog gl 68 [mkI neg l] (.tup [.int .i64 0,.bool false]):=by
 refine spec_fn T_ok mixed_ok 0 Tryz.func68 fn_ok68 (by kernel_rfl) ?_
 first | refine Exists.intro _ (And.intro (v) ?_) | refine Hn_by (Exists.intro _ (And.intro (v) ?_))
 repeat (first | refine gT ?_ | refine gF ?_ | refine brT ?_ | refine brF ?_)
 refine br (fun _ => ?_) (fun g => ?_)
 ·exact And.intro (Or.inr rfl) rfl
 ·have g' : ¬ ((irows .u32 l).length : Int) > 2:=g
  omega
theorem small_pos (gl : List (Nat × AV)) {l : List Int} {m : Int} (v : Spec Tryz.prog gl 90 [mkI false l] (.bool true)) (h : ¬ (irows .u32 l).length > 2) (w : Spec Tryz.prog gl 98 [lim l] (.int .u64 m)) (m0 : 0 <= m) :
  Spec Tryz.prog gl 68 [mkI false l] (.tup [.int .i64 (if m < 9223372036854775808 then m else 0),.bool (decide (m < 9223372036854775808))]):=by
 refine spec_fn T_ok mixed_ok 0 Tryz.func68 fn_ok68 (by kernel_rfl) ?_
 first | refine Exists.intro _ (And.intro (v) ?_) | refine Hn_by (Exists.intro _ (And.intro (v) ?_))
 repeat (first | refine gT ?_ | refine gF ?_ | refine brT ?_ | refine brF ?_)
 refine br (fun g => ?_) (fun _ => ?_)
 ·have g' : ((irows .u32 l).length : Int) > 2:=g
  omega
 first | refine Exists.intro _ (And.intro (w) ?_) | refine Hn_by (Exists.intro _ (And.intro (w) ?_))
 repeat (first | refine gT ?_ | refine gF ?_ | refine brT ?_ | refine brF ?_)
 refine br (fun g => ?_) (fun g => ?_)
 ·have g' : m ≥ 9223372036854775808:=g
  rw [if_neg (show ¬ m < 9223372036854775808 by omega),decide_eq_false (show ¬ m < 9223372036854775808 by omega)]
  exact And.intro (Or.inr rfl) rfl
 ·have g' : ¬ m ≥ 9223372036854775808:=g
  rw [if_pos (show m < 9223372036854775808 by omega),decide_eq_true (show m < 9223372036854775808 by omega)]
  refine And.intro (Or.inr rfl) ?_
  show AV.tup [AV.int .i64 (w64 m),AV.bool true] = _
  rw [w64_eq (by omega)]
theorem small_neg (gl : List (Nat × AV)) {l : List Int} {m : Int} (v : Spec Tryz.prog gl 90 [mkI true l] (.bool true)) (h : ¬ (irows .u32 l).length > 2) (w : Spec Tryz.prog gl 98 [lim l] (.int .u64 m)) (m0 : 0 < m) :
  Spec Tryz.prog gl 68 [mkI true l] (.tup [.int .i64 (if m <= 9223372036854775808 then -m else 0),.bool (decide (m <= 9223372036854775808))]):=by
 refine spec_fn T_ok mixed_ok 0 Tryz.func68 fn_ok68 (by kernel_rfl) ?_
 first | refine Exists.intro _ (And.intro (v) ?_) | refine Hn_by (Exists.intro _ (And.intro (v) ?_))
 repeat (first | refine gT ?_ | refine gF ?_ | refine brT ?_ | refine brF ?_)
 refine br (fun g => ?_) (fun _ => ?_)
 ·have g' : ((irows .u32 l).length : Int) > 2:=g
  omega
 first | refine Exists.intro _ (And.intro (w) ?_) | refine Hn_by (Exists.intro _ (And.intro (w) ?_))
 repeat (first | refine gT ?_ | refine gF ?_ | refine brT ?_ | refine brF ?_)
 refine br (fun g => ?_) (fun g => ?_)
 ·have g' : m > 9223372036854775808:=g
  rw [if_neg (show ¬ m <= 9223372036854775808 by omega),decide_eq_false (show ¬ m <= 9223372036854775808 by omega)]
  exact And.intro (Or.inr rfl) rfl
 ·have g' : ¬ m > 9223372036854775808:=g
  rw [if_pos (show m <= 9223372036854775808 by omega),decide_eq_true (show m <= 9223372036854775808 by omega)]
  refine And.intro (Or.inr rfl) ?_
  show AV.tup [AV.int .i64 (w64 (u64 (0 - m))),AV.bool true] = _
  have e : w64 (u64 (0 - m)) = -m:=by
   rw [u64_eq,w64,IntKind.wrap_i64]
   omega
  rw [e]
theorem small_int (gl : List (Nat × AV)) {z : Int} (hz : Fits z) : (-9223372036854775808 <= z ∧ z < 9223372036854775808 -> Spec Tryz.prog gl 68 [mkZ z] (.tup [.int .i64 z,.bool true])) ∧ (¬ (-9223372036854775808 <= z ∧ z < 9223372036854775808) -> Spec Tryz.prog gl 68 [mkZ z] (.tup [.int .i64 0,.bool false])):=by
 have v:=valid_int gl hz
 have va:=val_az z
 have hd:=Dg.magD (az z)
 have eaz : az z = (z.natAbs : Int):=rfl
 by_cases h2 : (irows .u32 (Dg.mag (az z))).length > 2
 ·have hb : ¬ z.natAbs < 2 ^ 64:=len_gt2.1 (by rw [eaz] at h2; omega)
  refine ⟨fun h => absurd h (by omega),fun _ => ?_⟩
  exact small_no gl v h2
 ·have w:=word_spec gl hd (by rw [irows_len] at h2; omega)
  rw [va] at w
  unfold mkZ at v ⊢
  by_cases hn : z < 0
  ·rw [decide_eq_true hn] at v ⊢
   have s:=small_neg gl v h2 w (by omega)
   refine ⟨fun h => ?_,fun h => ?_⟩
   ·rw [if_pos (by omega),decide_eq_true (by omega),show -az z = z by omega] at s
    exact s
   ·rw [if_neg (by omega),decide_eq_false (by omega)] at s
    exact s
  ·rw [decide_eq_false hn] at v ⊢
   have s:=small_pos gl v h2 w (by omega)
   refine ⟨fun h => ?_,fun h => ?_⟩
   ·rw [if_pos (by omega),decide_eq_true (by omega)] at s
    rw [show AV.int .i64 z = AV.int .i64 (az z) by rw [show az z = z by omega]]
    exact s
   ·rw [if_neg (by omega),decide_eq_false (by omega)] at s
    exact s
theorem floor_walk (gl : List (Nat × AV)) {nn dn mn qn rn : Bool} {nl dl ml ql rl : List Int} (v : Spec Tryz.prog gl 64 [mkQ nn nl dn dl] (.bool true)) (s : Spec Tryz.prog gl 97 [mkI nn nl,.int .i64 24] (.tup [mkI mn ml,.int .i64 0]))
  (d : Spec Tryz.prog gl 96 [mkI mn ml,mkI dn dl] (.tup [mkI qn ql,mkI rn rl,.int .i64 0])) : Spec Tryz.prog gl 67 [mkQ nn nl dn dl,.int .i64 24] (.tup [mkI qn ql,.int .i64 0]):=by
 refine spec_fn T_ok mixed_ok 0 Tryz.func67 fn_ok67 (by kernel_rfl) ?_
 first | refine Exists.intro _ (And.intro (v) ?_) | refine Hn_by (Exists.intro _ (And.intro (v) ?_))
 repeat (first | refine gT ?_ | refine gF ?_ | refine brT ?_ | refine brF ?_)
 first | refine Exists.intro _ (And.intro (s) ?_) | refine Hn_by (Exists.intro _ (And.intro (s) ?_))
 repeat (first | refine gT ?_ | refine gF ?_ | refine brT ?_ | refine brF ?_)
 first | refine Exists.intro _ (And.intro (d) ?_) | refine Hn_by (Exists.intro _ (And.intro (d) ?_))
 exact And.intro (Or.inr rfl) rfl
theorem floor_int (gl : List (Nat × AV)) {n d : Int} (hn : Fits n) (hd : Fits d) (h : 0 < d) (hg : Int.gcd n d = 1) (hs : Fits (n * 16777216)) : Spec Tryz.prog gl 67 [mkR n d,.int .i64 24] (.tup [mkZ (n * 16777216 / d),.int .i64 0]):=by
 have v:=ratvalid_int gl hn hd h hg
 have s:=shift_int gl hn (n:=24) (by decide)
 rw [show (2 : Int) ^ 24 = 16777216 by decide,resZ_ok hs] at s
 exact floor_walk gl v s (divmod_int gl hs hd h)
theorem minusOne_spec (gl : List (Nat × AV)) : Spec Tryz.prog gl 66 [] (mkR (-1) 1):=by
 have o:=ratof_int gl (n:=-1) (d:=1) (by decide) (by decide) (by decide) (by decide)
 rw [show (Int.gcd (-1) 1 : Int) = 1 from rfl,Int.ediv_one,Int.ediv_one] at o
 unfold mkR at o ⊢
 generalize decide ((-1 : Int) < 0) = a at o ⊢
 generalize Dg.mag (az (-1)) = b at o ⊢
 generalize decide ((1 : Int) < 0) = c at o ⊢
 generalize Dg.mag (az 1) = d at o ⊢
 refine spec_fn T_ok mixed_ok 0 Tryz.func66 fn_ok66 (by kernel_rfl) ?_
 first | refine Exists.intro _ (And.intro (o) ?_) | refine Hn_by (Exists.intro _ (And.intro (o) ?_))
 exact And.intro (Or.inr rfl) rfl
end Ab
