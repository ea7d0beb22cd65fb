import Derived.Test.YtinhfpljdjlomaaGreatXExact
import Derived.Test.YtinhfpljdjlomaaGreatXRefT
open Go Go.Proofs
namespace Ab
set_option maxRecDepth 100000
set_option maxHeartbeats 1000000
def fitB (n : Int) : Bool:=decide (-MF <= n ∧ n <= MF)
theorem fits_spec (n : Int) : Spec Tryz.prog [] 129 [.int .i64 n] (.bool (fitB n)):=by
 refine spec_fn T_ok mixed_ok 0 Tryz.func129 fn_ok129 (by kernel_rfl) ?_
 refine br (fun h1 => ?_) (fun h1 => ?_)
 ·repeat (first | refine gT ?_ | refine gF ?_ | refine brT ?_ | refine brF ?_)
  refine And.intro (Or.inr rfl) (congrArg AV.bool ?_)
  have h1' : n ≥ -1152921504606846976:=h1
  unfold fitB MF
  exact decide_eq_decide.2 ⟨fun h => ⟨by omega,h⟩,fun h => h.2⟩
 ·repeat (first | refine gT ?_ | refine gF ?_ | refine brT ?_ | refine brF ?_)
  refine And.intro (Or.inr rfl) (congrArg AV.bool ?_)
  have h1' : ¬ n ≥ -1152921504606846976:=h1
  unfold fitB MF
  exact (decide_eq_false (fun h => h1' (by omega))).symm
def and4 (a b c d : Bool) : Bool:=match a with
 | false => false
 | true => match b with
  | false => false
  | true => match c with
   | false => false
   | true => d
theorem and4_iff {a b c d : Bool} : and4 a b c d = true ↔ a = true ∧ b = true ∧ c = true ∧ d = true:=by
 cases a <;> cases b <;> cases c <;> simp [and4]
def ex4 (b1 b2 f1 f2 : Bool) (k1 k2 : Int) : AV:=match and4 b1 b2 f1 f2 with | true => .tup [bx k1 (w64 (0 - k2)) 0 0 false,.int .i64 0] | false => .tup [bx 0 0 0 0 false,.int .i64 2]
theorem exact16_walk {nn dn zn zd mn md an bn b1 b2 g1 g2 : Bool} {nl dl zl zm ml mm al bl : List Int} {k1 k2 : Int} (v : Spec Tryz.prog [] 79 [mkQ nn nl dn dl] (.bool true)) (zo : Spec Tryz.prog [] 70 [.int .i64 0,.int .i64 1] (.tup [mkQ zn zl zd zm,.int .i64 0]))
  (sb : Spec Tryz.prog [] 83 [mkQ zn zl zd zm,mkQ nn nl dn dl] (.tup [mkQ mn ml md mm,.int .i64 0]))
  (f1 : Spec Tryz.prog [] 127 [mkQ nn nl dn dl,.int .i64 24] (.tup [mkI an al,.int .i64 0])) (f2 : Spec Tryz.prog [] 127 [mkQ mn ml md mm,.int .i64 24] (.tup [mkI bn bl,.int .i64 0]))
  (s1 : Spec Tryz.prog [] 128 [mkI an al] (.tup [.int .i64 k1,.bool b1])) (s2 : Spec Tryz.prog [] 128 [mkI bn bl] (.tup [.int .i64 k2,.bool b2]))
  (h1 : Spec Tryz.prog [] 129 [.int .i64 k1] (.bool g1)) (h2 : Spec Tryz.prog [] 129 [.int .i64 k2] (.bool g2)) :
  Spec Tryz.prog [] 86 [mkQ nn nl dn dl] (ex4 b1 b2 g1 g2 k1 k2):=by
 cases b1 with
 | false =>
  refine spec_fn T_ok mixed_ok 0 Tryz.func86 fn_ok86 (by kernel_rfl) ?_
  first | refine Exists.intro _ (And.intro (v) ?_) | refine Hn_by (Exists.intro _ (And.intro (v) ?_))
  repeat (first | refine gT ?_ | refine gF ?_ | refine brT ?_ | refine brF ?_)
  first | refine Exists.intro _ (And.intro (zo) ?_) | refine Hn_by (Exists.intro _ (And.intro (zo) ?_))
  first | refine Exists.intro _ (And.intro (sb) ?_) | refine Hn_by (Exists.intro _ (And.intro (sb) ?_))
  first | refine Exists.intro _ (And.intro (f1) ?_) | refine Hn_by (Exists.intro _ (And.intro (f1) ?_))
  first | refine Exists.intro _ (And.intro (f2) ?_) | refine Hn_by (Exists.intro _ (And.intro (f2) ?_))
  first | refine Exists.intro _ (And.intro (s1) ?_) | refine Hn_by (Exists.intro _ (And.intro (s1) ?_))
  first | refine Exists.intro _ (And.intro (s2) ?_) | refine Hn_by (Exists.intro _ (And.intro (s2) ?_))
  repeat (first | refine gT ?_ | refine gF ?_ | refine brT ?_ | refine brF ?_)
  exact And.intro (Or.inr rfl) rfl
 | true =>
 cases b2 with
 | false =>
  refine spec_fn T_ok mixed_ok 0 Tryz.func86 fn_ok86 (by kernel_rfl) ?_
  first | refine Exists.intro _ (And.intro (v) ?_) | refine Hn_by (Exists.intro _ (And.intro (v) ?_))
  repeat (first | refine gT ?_ | refine gF ?_ | refine brT ?_ | refine brF ?_)
  first | refine Exists.intro _ (And.intro (zo) ?_) | refine Hn_by (Exists.intro _ (And.intro (zo) ?_))
  first | refine Exists.intro _ (And.intro (sb) ?_) | refine Hn_by (Exists.intro _ (And.intro (sb) ?_))
  first | refine Exists.intro _ (And.intro (f1) ?_) | refine Hn_by (Exists.intro _ (And.intro (f1) ?_))
  first | refine Exists.intro _ (And.intro (f2) ?_) | refine Hn_by (Exists.intro _ (And.intro (f2) ?_))
  first | refine Exists.intro _ (And.intro (s1) ?_) | refine Hn_by (Exists.intro _ (And.intro (s1) ?_))
  first | refine Exists.intro _ (And.intro (s2) ?_) | refine Hn_by (Exists.intro _ (And.intro (s2) ?_))
  repeat (first | refine gT ?_ | refine gF ?_ | refine brT ?_ | refine brF ?_)
  exact And.intro (Or.inr rfl) rfl
 | true =>
 cases g1 with
 | false =>
  refine spec_fn T_ok mixed_ok 0 Tryz.func86 fn_ok86 (by kernel_rfl) ?_
  first | refine Exists.intro _ (And.intro (v) ?_) | refine Hn_by (Exists.intro _ (And.intro (v) ?_))
  repeat (first | refine gT ?_ | refine gF ?_ | refine brT ?_ | refine brF ?_)
  first | refine Exists.intro _ (And.intro (zo) ?_) | refine Hn_by (Exists.intro _ (And.intro (zo) ?_))
  first | refine Exists.intro _ (And.intro (sb) ?_) | refine Hn_by (Exists.intro _ (And.intro (sb) ?_))
  first | refine Exists.intro _ (And.intro (f1) ?_) | refine Hn_by (Exists.intro _ (And.intro (f1) ?_))
  first | refine Exists.intro _ (And.intro (f2) ?_) | refine Hn_by (Exists.intro _ (And.intro (f2) ?_))
  first | refine Exists.intro _ (And.intro (s1) ?_) | refine Hn_by (Exists.intro _ (And.intro (s1) ?_))
  first | refine Exists.intro _ (And.intro (s2) ?_) | refine Hn_by (Exists.intro _ (And.intro (s2) ?_))
  repeat (first | refine gT ?_ | refine gF ?_ | refine brT ?_ | refine brF ?_)
  first | refine Exists.intro _ (And.intro (h1) ?_) | refine Hn_by (Exists.intro _ (And.intro (h1) ?_))
  repeat (first | refine gT ?_ | refine gF ?_ | refine brT ?_ | refine brF ?_)
  exact And.intro (Or.inr rfl) rfl
 | true =>
 cases g2 with
 | false =>
  refine spec_fn T_ok mixed_ok 0 Tryz.func86 fn_ok86 (by kernel_rfl) ?_
  first | refine Exists.intro _ (And.intro (v) ?_) | refine Hn_by (Exists.intro _ (And.intro (v) ?_))
  repeat (first | refine gT ?_ | refine gF ?_ | refine brT ?_ | refine brF ?_)
  first | refine Exists.intro _ (And.intro (zo) ?_) | refine Hn_by (Exists.intro _ (And.intro (zo) ?_))
  first | refine Exists.intro _ (And.intro (sb) ?_) | refine Hn_by (Exists.intro _ (And.intro (sb) ?_))
  first | refine Exists.intro _ (And.intro (f1) ?_) | refine Hn_by (Exists.intro _ (And.intro (f1) ?_))
  first | refine Exists.intro _ (And.intro (f2) ?_) | refine Hn_by (Exists.intro _ (And.intro (f2) ?_))
  first | refine Exists.intro _ (And.intro (s1) ?_) | refine Hn_by (Exists.intro _ (And.intro (s1) ?_))
  first | refine Exists.intro _ (And.intro (s2) ?_) | refine Hn_by (Exists.intro _ (And.intro (s2) ?_))
  repeat (first | refine gT ?_ | refine gF ?_ | refine brT ?_ | refine brF ?_)
  first | refine Exists.intro _ (And.intro (h1) ?_) | refine Hn_by (Exists.intro _ (And.intro (h1) ?_))
  repeat (first | refine gT ?_ | refine gF ?_ | refine brT ?_ | refine brF ?_)
  first | refine Exists.intro _ (And.intro (h2) ?_) | refine Hn_by (Exists.intro _ (And.intro (h2) ?_))
  repeat (first | refine gT ?_ | refine gF ?_ | refine brT ?_ | refine brF ?_)
  exact And.intro (Or.inr rfl) rfl
 | true =>
  refine spec_fn T_ok mixed_ok 0 Tryz.func86 fn_ok86 (by kernel_rfl) ?_
  first | refine Exists.intro _ (And.intro (v) ?_) | refine Hn_by (Exists.intro _ (And.intro (v) ?_))
  repeat (first | refine gT ?_ | refine gF ?_ | refine brT ?_ | refine brF ?_)
  first | refine Exists.intro _ (And.intro (zo) ?_) | refine Hn_by (Exists.intro _ (And.intro (zo) ?_))
  first | refine Exists.intro _ (And.intro (sb) ?_) | refine Hn_by (Exists.intro _ (And.intro (sb) ?_))
  first | refine Exists.intro _ (And.intro (f1) ?_) | refine Hn_by (Exists.intro _ (And.intro (f1) ?_))
  first | refine Exists.intro _ (And.intro (f2) ?_) | refine Hn_by (Exists.intro _ (And.intro (f2) ?_))
  first | refine Exists.intro _ (And.intro (s1) ?_) | refine Hn_by (Exists.intro _ (And.intro (s1) ?_))
  first | refine Exists.intro _ (And.intro (s2) ?_) | refine Hn_by (Exists.intro _ (And.intro (s2) ?_))
  repeat (first | refine gT ?_ | refine gF ?_ | refine brT ?_ | refine brF ?_)
  first | refine Exists.intro _ (And.intro (h1) ?_) | refine Hn_by (Exists.intro _ (And.intro (h1) ?_))
  repeat (first | refine gT ?_ | refine gF ?_ | refine brT ?_ | refine brF ?_)
  first | refine Exists.intro _ (And.intro (h2) ?_) | refine Hn_by (Exists.intro _ (And.intro (h2) ?_))
  repeat (first | refine gT ?_ | refine gF ?_ | refine brT ?_ | refine brF ?_)
  exact And.intro (Or.inr rfl) rfl
theorem rsmall_cases {z : Int} (hz : Fits z) : ∃ k b,Spec Tryz.prog [] 128 [mkZ z] (.tup [.int .i64 k,.bool b]) ∧ ((-MF <= z ∧ z <= MF) -> k = z ∧ b = true) ∧ (¬ (-MF <= z ∧ z <= MF) -> b = false ∨ fitB k = false):=by
 obtain ⟨s1,s2⟩:=rsmall_int [] hz
 by_cases h : -9223372036854775808 <= z ∧ z < 9223372036854775808
 ·exact ⟨_,_,s1 h,fun _ => ⟨rfl,rfl⟩,fun g => .inr (decide_eq_false g)⟩
 ·exact ⟨_,_,s2 h,fun g => absurd g (by unfold MF; omega),fun _ => .inl rfl⟩
theorem rsub_zero {n d : Int} (hn : Fits n) (hd : Fits d) (d0 : 0 < d) (hg : Int.gcd n d = 1) : Spec Tryz.prog [] 83 [mkR 0 1,mkR n d] (.tup [mkR (-n) d,.int .i64 0]):=by
 have f0 : Fits 0:=fits_i64 (by decide) (by decide)
 have f1 : Fits 1:=fits_i64 (by decide) (by decide)
 have fn : Fits (-n):=by unfold Fits; rw [show az (-n) = az n by unfold az; omega]; exact hn
 have e : 0 * d - n * 1 = -n:=by omega
 have s:=r2sub_int [] f0 f1 hn hd (by decide) d0 rfl hg (by rw [Int.zero_mul]; exact f0) (by rw [Int.mul_one]; exact hn) (by rw [e]; exact fn) (by rw [Int.one_mul]; exact hd)
 rw [e,Int.one_mul,Int.neg_gcd,hg,show ((1 : Nat) : Int) = 1 from rfl,Int.ediv_one,Int.ediv_one] at s
 exact s
theorem exact16_int {n d : Int} (hn : Fits n) (hd : Fits d) (d0 : 0 < d) (hg : Int.gcd n d = 1) (hs : Fits (n * 16777216)) :
  (ExOk n d -> Spec Tryz.prog [] 86 [mkR n d] (.tup [(exB n d).av,.int .i64 0])) ∧ (¬ ExOk n d -> Spec Tryz.prog [] 86 [mkR n d] (.tup [bx 0 0 0 0 false,.int .i64 2])):=by
 have fn : Fits (-n):=by unfold Fits; rw [show az (-n) = az n by unfold az; omega]; exact hn
 have hs2 : Fits (-n * 16777216):=by unfold Fits; rw [show az (-n * 16777216) = az (n * 16777216) by unfold az; omega]; exact hs
 have hg2 : Int.gcd (-n) d = 1:=by rw [Int.neg_gcd]; exact hg
 have v:=r2valid_int [] hn hd d0 hg
 have zo:=rof_int [] (n:=0) (d:=1) (by decide) (by decide) (by decide) (by decide)
 rw [show (Int.gcd 0 1 : Int) = 1 from rfl,Int.ediv_one,Int.ediv_one] at zo
 have m:=rsub_zero hn hd d0 hg
 have f1:=r2floor_int [] hn hd d0 hg hs
 have f2:=r2floor_int [] fn hd d0 hg2 hs2
 obtain ⟨k1,b1,s1,p1,q1⟩:=rsmall_cases (quo_fits d0 hs)
 obtain ⟨k2,b2,s2,p2,q2⟩:=rsmall_cases (quo_fits d0 hs2)
 have e1 : n * 16777216 / d = fl n d:=rfl
 have e2 : -n * 16777216 / d = fl (-n) d:=rfl
 rw [e1] at f1 s1 p1 q1
 rw [e2] at f2 s2 p2 q2
 have w:=exact16_walk v zo m f1 f2 s1 s2 (fits_spec k1) (fits_spec k2)
 refine ⟨fun h => ?_,fun h => ?_⟩
 ·obtain ⟨rfl,rfl⟩:=p1 h.1
  obtain ⟨rfl,rfl⟩:=p2 h.2
  rw [show fitB (fl n d) = true from decide_eq_true h.1,show fitB (fl (-n) d) = true from decide_eq_true h.2] at w
  have e3 : w64 (0 - fl (-n) d) = -fl (-n) d:=by
   have:=h.2
   unfold MF at this
   rw [w64_eq (by omega)]; omega
  have w' : Spec Tryz.prog [] 86 [mkR n d] (.tup [bx (fl n d) (w64 (0 - fl (-n) d)) 0 0 false,.int .i64 0]):=w
  rw [e3] at w'
  exact w'
 ·have hz : and4 b1 b2 (fitB k1) (fitB k2) = false:=by
   cases hb : and4 b1 b2 (fitB k1) (fitB k2) with
   | false => rfl
   | true =>
    obtain ⟨a1,a2,a3,a4⟩:=and4_iff.1 hb
    exfalso
    by_cases g1 : -MF <= fl n d ∧ fl n d <= MF
    ·by_cases g2 : -MF <= fl (-n) d ∧ fl (-n) d <= MF
     ·exact h ⟨g1,g2⟩
     ·rcases q2 g2 with e | e
      ·rw [e] at a2; cases a2
      ·rw [e] at a4; cases a4
    ·rcases q1 g1 with e | e
     ·rw [e] at a1; cases a1
     ·rw [e] at a3; cases a3
  unfold ex4 at w
  rw [hz] at w
  exact w
theorem floor_bad (gl : List (Nat × AV)) {n d : Int} (hn : Fits n) (hd : Fits d) (h : 0 < d) (hg : Int.gcd n d = 1) (hs : ¬ Fits (n * 16777216)) : Spec Tryz.prog gl 67 [mkR n d,.int .i64 24] (.tup [mkI false [],.int .i64 2]):=by
 have v:=ratvalid_int gl hn hd h hg
 have s:=shift_int gl hn (n:=24) (by decide)
 rw [show (2 : Int) ^ 24 = 16777216 by decide,resZ_bad hs] at s
 refine spec_fn T_ok mixed_ok 0 Tryz.func67 fn_ok67 (by kernel_rfl) ?_
 first | refine Exists.intro _ (And.intro (v) ?_) | refine Hn_by (Exists.intro _ (And.intro (v) ?_))
 repeat (first | refine gT ?_ | refine gF ?_ | refine brT ?_ | refine brF ?_)
 first | refine Exists.intro _ (And.intro (s) ?_) | refine Hn_by (Exists.intro _ (And.intro (s) ?_))
 repeat (first | refine gT ?_ | refine gF ?_ | refine brT ?_ | refine brF ?_)
 exact And.intro (Or.inr rfl) rfl
theorem rfloor_bad (gl : List (Nat × AV)) {n d : Int} (hn : Fits n) (hd : Fits d) (h : 0 < d) (hg : Int.gcd n d = 1) (hs : ¬ Fits (n * 16777216)) : Spec Tryz.prog gl 127 [mkR n d,.int .i64 24] (.tup [mkI false [],.int .i64 2]):=by
 have v:=r2valid_int gl hn hd h hg
 have h0 : n ≠ 0:=fun e => hs (by subst e; exact fits_i64 (by decide) (by decide))
 have la:=fits_len hn
 have l:=rleft_spec gl (Dg.magD (az n)) (by omega) (n:=24) (by omega)
 rw [val_az] at l
 have hl : (Dg.mag (az n * 2 ^ 24)).length <= 256:=mag_pow (Int.mul_nonneg (az_nn n) (by decide)) (by
  rw [show (256 : Nat) = 128 + 128 from rfl,Int.pow_add]
  refine Int.lt_of_le_of_lt (Int.mul_le_mul_of_nonneg_right (Int.le_of_lt (az_pow hn)) (by decide)) (Int.mul_lt_mul_of_pos_left ?_ (Dg.pow_pos 128))
  rw [pow_B]
  exact Int.lt_of_lt_of_le (show (2 : Int) ^ 24 < 2 ^ 25 by decide) (two_pow_le (by omega)))
 have e24 : sg (decide (n < 0)) (az n * 2 ^ 24) = n * 16777216:=by
  have:=sg_pow n 24
  rw [show (2 : Int) ^ 24 = 16777216 by decide] at this ⊢
  exact this
 obtain ⟨zn,zl,ec,er,ft⟩:=rfit_tot gl (Int.mul_nonneg (az_nn n) (by decide)) e24 (by omega)
 rw [resZ_bad hs] at er
 simp only [AV.tup.injEq,List.cons.injEq,and_true] at er
 obtain ⟨er1,er2⟩:=er
 rw [<- er1,<- er2] at ft
 have s:=rshl_walk gl (n:=24) (rvalid_int gl hn) (mag_ne h0) (by decide) (by decide) l ft
 refine spec_fn T_ok mixed_ok 0 Tryz.func127 fn_ok127 (by kernel_rfl) ?_
 first | refine Exists.intro _ (And.intro (v) ?_) | refine Hn_by (Exists.intro _ (And.intro (v) ?_))
 repeat (first | refine gT ?_ | refine gF ?_ | refine brT ?_ | refine brF ?_)
 first | refine Exists.intro _ (And.intro (s) ?_) | refine Hn_by (Exists.intro _ (And.intro (s) ?_))
 repeat (first | refine gT ?_ | refine gF ?_ | refine brT ?_ | refine brF ?_)
 exact And.intro (Or.inr rfl) rfl
end Ab
