import Derived.Test.YtpjjbhhoagocjaaGreatDoorXInt
import Derived.Laws.BitsAllLaws
open Go Go.Proofs
namespace Ab
set_option maxRecDepth 100000
set_option maxHeartbeats 1000000
def Fits (z : Int) : Prop:=(Dg.mag (az z)).length <= 128
theorem fits_lt {z : Int} (h : az z < Dg.B ^ 128) : Fits z:=Dg.mag_len_lt (az_nn z) h
theorem valid_int (gl : List (Nat × AV)) {z : Int} (h : Fits z) : Spec Tryz.prog gl 70 [mkZ z] (.bool true):=by
 unfold mkZ
 have hC:=Dg.magC (az z)
 have h0:=mag_nil (az_nn z)
 unfold Fits at h
 have hz : Dg.mag (az z) = [] -> decide (z < 0) = false:=by
  intro e
  have:=h0.1 e
  unfold az at this
  exact decide_eq_false (by omega)
 generalize Dg.mag (az z) = l at h hC hz
 have ll : ((irows .u32 l).length : Int) = l.length:=by rw [irows_len]
 by_cases hl : l = []
 ·subst hl
  rw [hz rfl]
  refine spec_fn T_ok mixed_ok 0 Tryz.func70 fn_ok70 (by kernel_rfl) ?_
  refine brT ?_
  exact And.intro (Or.inr rfl) rfl
 ·have hpos : 0 < l.length:=List.length_pos_iff.2 hl
  have hlast : l[l.length - 1]? = some (l.getD (l.length - 1) 0):=getD_some (by omega)
  have hne : l.getD (l.length - 1) 0 ≠ 0:=hC _ (by rw [List.getLast?_eq_getElem?]; exact hlast)
  have hw : w64 (((irows .u32 l).length : Int) - 1) = ((l.length - 1 : Nat) : Int):=by rw [ll,w64_eq (by omega)]; omega
  generalize decide (z < 0) = neg
  refine spec_fn T_ok mixed_ok 0 Tryz.func70 fn_ok70 (by kernel_rfl) ?_
  refine brE (fun e => ?_) (fun _ => ?_)
  ·have : ((irows .u32 l).length : Int) = 0:=e
   omega
  refine br (fun _ => ?_) (fun e => ?_)
  ·repeat (first | refine gT ?_ | refine gF ?_ | refine brT ?_ | refine brF ?_)
   refine And.intro (show 0 <= w64 (((irows .u32 l).length : Int) - 1) by rw [hw]; omega) (Exists.intro _ (And.intro (irows_at (x:=l.getD (l.length - 1) 0) (by rw [show IntKind.i64.wrap (((irows .u32 l).length : Int) - 1) = ((l.length - 1 : Nat) : Int) from hw]; exact hlast)) ?_))
   repeat (first | refine gT ?_ | refine gF ?_ | refine brT ?_ | refine brF ?_)
   refine And.intro (Or.inr rfl) (congrArg AV.bool ?_)
   show (l.getD (l.length - 1) 0 != 0) = true
   simp only [bne_iff_ne]; exact hne
  ·have : ¬ ((irows .u32 l).length : Int) <= 128:=e
   omega
theorem both_ok (gl : List (Nat × AV)) {a b : Int} (ha : Fits a) (hb : Fits b) : Spec Tryz.prog gl 64 [mkZ a,mkZ b] (.bool true):=by
 have s1:=valid_int gl ha
 have s2:=valid_int gl hb
 unfold mkZ at s1 s2 ⊢
 generalize decide (a < 0) = n at s1 ⊢
 generalize Dg.mag (az a) = l at s1 ⊢
 generalize decide (b < 0) = m at s2 ⊢
 generalize Dg.mag (az b) = k at s2 ⊢
 refine spec_fn T_ok mixed_ok 1 Tryz.func64 fn_ok64 (by kernel_rfl) ?_
 first | refine Exists.intro _ (And.intro (s1) ?_) | refine Hn_by (Exists.intro _ (And.intro (s1) ?_))
 repeat (first | refine gT ?_ | refine gF ?_ | refine brT ?_ | refine brF ?_)
 first | refine Exists.intro _ (And.intro (s2) ?_) | refine Hn_by (Exists.intro _ (And.intro (s2) ?_))
 repeat (first | refine gT ?_ | refine gF ?_ | refine brT ?_ | refine brF ?_)
 exact And.intro (Or.inr rfl) rfl
theorem abs_mul (a b : Int) : az a * az b = az (a * b):=by unfold az; rw [Int.natAbs_mul,Int.natCast_mul]
theorem sign_az (a : Int) : (if decide (a < 0) then -az a else az a) = a:=by
 unfold az
 by_cases h : a < 0
 ·rw [decide_eq_true h,if_pos rfl]; omega
 ·rw [decide_eq_false h,if_neg (by decide)]; omega
theorem sign_mul (a b : Int) : (if (decide (a < 0) != decide (b < 0)) then -(az a * az b) else az a * az b) = a * b:=by
 unfold az
 by_cases ha : a < 0 <;> by_cases hb : b < 0
 ·simp only [ha,hb,decide_true,bne_self_eq_false,Bool.false_eq_true,if_false]
  rw [show (a.natAbs : Int) = -a by omega,show (b.natAbs : Int) = -b by omega,Int.neg_mul_neg]
 ·simp only [ha,hb,decide_true,decide_false,bne_iff_ne,ne_eq,Bool.true_eq_false,not_false_eq_true,if_true]
  rw [show (a.natAbs : Int) = -a by omega,show (b.natAbs : Int) = b by omega,Int.neg_mul,Int.neg_neg]
 ·simp only [ha,hb,decide_true,decide_false,bne_iff_ne,ne_eq,Bool.false_eq_true,not_false_eq_true,if_true]
  rw [show (a.natAbs : Int) = a by omega,show (b.natAbs : Int) = -b by omega,Int.mul_neg,Int.neg_neg]
 ·simp only [ha,hb,decide_false,bne_self_eq_false,Bool.false_eq_true,if_false]
  rw [show (a.natAbs : Int) = a by omega,show (b.natAbs : Int) = b by omega]
theorem fits_len {z : Int} (h : Fits z) : (Dg.mag (az z)).length <= 128:=h
theorem val_az (z : Int) : Dg.val (Dg.mag (az z)) = az z:=Dg.magV (az_nn z)
theorem mul_int (gl : List (Nat × AV)) {a b : Int} (ha : Fits a) (hb : Fits b) : Spec Tryz.prog gl 28 [mkZ a,mkZ b] (resZ (a * b)):=by
 have s1:=both_ok gl ha hb
 have s2:=product_spec gl (Dg.magD (az a)) (Dg.magD (az b)) (Nat.le_trans ha (by decide)) (Nat.le_trans hb (by decide))
 have hlen : ((Dg.mag (az a * az b)).length : Int) <= 9223372036854775807:=by
  have h1:=Dg.val_lt (Dg.magD (az a))
  have h2:=Dg.val_lt (Dg.magD (az b))
  rw [val_az] at h1 h2
  have h3 : az a * az b < Dg.B ^ ((Dg.mag (az a)).length + (Dg.mag (az b)).length):=by
   rw [Int.pow_add]
   exact Int.lt_of_le_of_lt (Int.mul_le_mul_of_nonneg_left (Int.le_of_lt h2) (az_nn a)) (Int.mul_lt_mul_of_pos_right h1 (Dg.pow_pos _))
  have h4:=Dg.mag_len_lt (Int.mul_nonneg (az_nn a) (az_nn b)) h3
  have:=fits_len ha
  have:=fits_len hb
  omega
 rw [val_az,val_az] at s2
 have s3:=result_spec gl (decide (a < 0) != decide (b < 0)) (Dg.mag (az a * az b)) hlen
 rw [resI_eq _ (Dg.magD _),Dg.magV (Int.mul_nonneg (az_nn a) (az_nn b)),sign_mul] at s3
 unfold resZ at s3 ⊢
 unfold mkZ at *
 clear hlen ha hb
 generalize Dg.mag (az a * az b) = p at s2 s3
 generalize decide (a * b < 0) = ps at s3 ⊢
 generalize Dg.mag (az (a * b)) = pl at s3 ⊢
 generalize decide (a < 0) = n at s1 s3 ⊢
 generalize Dg.mag (az a) = l at s1 s2 ⊢
 generalize decide (b < 0) = m at s1 s3 ⊢
 generalize Dg.mag (az b) = k at s1 s2 ⊢
 by_cases h : 128 < pl.length
 ·rw [if_pos h] at s3 ⊢
  refine spec_fn T_ok mixed_ok 1 Tryz.func28 fn_ok28 (by kernel_rfl) ?_
  first | refine Exists.intro _ (And.intro (s1) ?_) | refine Hn_by (Exists.intro _ (And.intro (s1) ?_))
  repeat (first | refine gT ?_ | refine gF ?_ | refine brT ?_ | refine brF ?_)
  refine And.intro (by kernel_rfl) ?_
  repeat (first | refine gT ?_ | refine gF ?_ | refine brT ?_ | refine brF ?_ | refine And.intro rfl ?_)
  first | refine Exists.intro _ (And.intro (s2) ?_) | refine Hn_by (Exists.intro _ (And.intro (s2) ?_))
  repeat (first | refine gT ?_ | refine gF ?_ | refine brT ?_ | refine brF ?_ | refine And.intro rfl ?_)
  first | refine Exists.intro _ (And.intro (s3) ?_) | refine Hn_by (Exists.intro _ (And.intro (s3) ?_))
  repeat (first | refine gT ?_ | refine gF ?_ | refine brT ?_ | refine brF ?_ | refine And.intro rfl ?_)
  exact And.intro (Or.inr rfl) rfl
 ·rw [if_neg h] at s3 ⊢
  refine spec_fn T_ok mixed_ok 1 Tryz.func28 fn_ok28 (by kernel_rfl) ?_
  first | refine Exists.intro _ (And.intro (s1) ?_) | refine Hn_by (Exists.intro _ (And.intro (s1) ?_))
  repeat (first | refine gT ?_ | refine gF ?_ | refine brT ?_ | refine brF ?_)
  refine And.intro (by kernel_rfl) ?_
  repeat (first | refine gT ?_ | refine gF ?_ | refine brT ?_ | refine brF ?_ | refine And.intro rfl ?_)
  first | refine Exists.intro _ (And.intro (s2) ?_) | refine Hn_by (Exists.intro _ (And.intro (s2) ?_))
  repeat (first | refine gT ?_ | refine gF ?_ | refine brT ?_ | refine brF ?_ | refine And.intro rfl ?_)
  first | refine Exists.intro _ (And.intro (s3) ?_) | refine Hn_by (Exists.intro _ (And.intro (s3) ?_))
  repeat (first | refine gT ?_ | refine gF ?_ | refine brT ?_ | refine brF ?_ | refine And.intro rfl ?_)
  exact And.intro (Or.inr rfl) rfl
theorem mag_lt_len {x : Int} {k : Nat} (h0 : 0 <= x) (h : x < Dg.B ^ k) (hk : k <= 1000) : ((Dg.mag x).length : Int) <= 9223372036854775807:=by
 have:=Dg.mag_len_lt h0 h; omega
theorem az_lt {z : Int} (h : Fits z) : az z < Dg.B ^ 128:=by
 have h1:=Dg.val_lt (Dg.magD (az z))
 rw [val_az] at h1
 refine Int.lt_of_lt_of_le h1 ?_
 have e : (128 : Nat) = (Dg.mag (az z)).length + (128 - (Dg.mag (az z)).length):=by have:=fits_len h; omega
 rw [e,Int.pow_add]
 have:=Dg.pow_pos (128 - (Dg.mag (az z)).length)
 have p:=Dg.pow_pos (Dg.mag (az z)).length
 have : Dg.B ^ (Dg.mag (az z)).length * 1 <= Dg.B ^ (Dg.mag (az z)).length * Dg.B ^ (128 - (Dg.mag (az z)).length):=Int.mul_le_mul_of_nonneg_left (by omega) (Int.le_of_lt p)
 omega
def sg (n : Bool) (x : Int) : Int:=if n then -x else x
theorem mag_le {x y : Int} (hx : 0 <= x) (h : x <= y) : (Dg.mag x).length <= (Dg.mag y).length:=by
 refine Dg.mag_len_lt hx (Int.lt_of_le_of_lt h ?_)
 have:=Dg.val_lt (Dg.magD y)
 rwa [Dg.magV (by omega)] at this
theorem signed_walk (gl : List (Nat × AV)) {an bn : Bool} {l k p : List Int} {r : AV} {c : Int} (hs : an = bn -> Spec Tryz.prog gl 116 [lim l,lim k] (lim p)∧Spec Tryz.prog gl 63 [.bool an,lim p] r)
  (hc : Spec Tryz.prog gl 117 [lim l,lim k] (.int .i64 c)) (h1 : an ≠ bn -> c < 0 -> Spec Tryz.prog gl 118 [lim k,lim l] (lim p)∧Spec Tryz.prog gl 63 [.bool bn,lim p] r)
  (h2 : an ≠ bn -> ¬ c < 0 -> Spec Tryz.prog gl 118 [lim l,lim k] (lim p)∧Spec Tryz.prog gl 63 [.bool an,lim p] r) (hr : ∃ neg q e,r = .tup [mkI neg q,.int .i64 e]) :
  Spec Tryz.prog gl 66 [.bool an,lim l,.bool bn,lim k] r:=by
 obtain ⟨neg,q,e,rfl⟩:=hr
 by_cases h : an = bn
 ·obtain ⟨s1,s2⟩:=hs h
  refine spec_fn T_ok mixed_ok 1 Tryz.func66 fn_ok66 (by kernel_rfl) ?_
  refine brB (fun _ => ?_) (fun g => absurd (show (an == bn) = true by simpa using h) (by rw [g]; decide))
  first | refine Exists.intro _ (And.intro (s1) ?_) | refine Hn_by (Exists.intro _ (And.intro (s1) ?_))
  first | refine Exists.intro _ (And.intro (s2) ?_) | refine Hn_by (Exists.intro _ (And.intro (s2) ?_))
  exact And.intro (Or.inr rfl) rfl
 ·by_cases h3 : c < 0
  ·obtain ⟨s1,s2⟩:=h1 h h3
   refine spec_fn T_ok mixed_ok 1 Tryz.func66 fn_ok66 (by kernel_rfl) ?_
   refine brB (fun g => absurd (eq_of_beq g) h) (fun _ => ?_)
   first | refine Exists.intro _ (And.intro (hc) ?_) | refine Hn_by (Exists.intro _ (And.intro (hc) ?_))
   refine br (fun _ => ?_) (fun g => absurd h3 g)
   first | refine Exists.intro _ (And.intro (s1) ?_) | refine Hn_by (Exists.intro _ (And.intro (s1) ?_))
   first | refine Exists.intro _ (And.intro (s2) ?_) | refine Hn_by (Exists.intro _ (And.intro (s2) ?_))
   exact And.intro (Or.inr rfl) rfl
  ·obtain ⟨s1,s2⟩:=h2 h h3
   refine spec_fn T_ok mixed_ok 1 Tryz.func66 fn_ok66 (by kernel_rfl) ?_
   refine brB (fun g => absurd (eq_of_beq g) h) (fun _ => ?_)
   first | refine Exists.intro _ (And.intro (hc) ?_) | refine Hn_by (Exists.intro _ (And.intro (hc) ?_))
   refine br (fun g => absurd g h3) (fun _ => ?_)
   first | refine Exists.intro _ (And.intro (s1) ?_) | refine Hn_by (Exists.intro _ (And.intro (s1) ?_))
   first | refine Exists.intro _ (And.intro (s2) ?_) | refine Hn_by (Exists.intro _ (And.intro (s2) ?_))
   exact And.intro (Or.inr rfl) rfl
theorem resZ_form (z : Int) : ∃ neg q e,resZ z = .tup [mkI neg q,.int .i64 e]:=by
 unfold resZ
 split
 ·exact ⟨_,_,_,rfl⟩
 ·exact ⟨_,_,_,rfl⟩
theorem result_int (gl : List (Nat × AV)) {neg : Bool} {x z : Int} (hx : 0 <= x) (hz : sg neg x = z) {k : Nat} (h : x < Dg.B ^ k) (hk : k <= 1000) : Spec Tryz.prog gl 63 [.bool neg,lim (Dg.mag x)] (resZ z):=by
 have s:=result_spec gl neg (Dg.mag x) (mag_lt_len hx h hk)
 rw [resI_eq _ (Dg.magD _),Dg.magV hx] at s
 unfold sg at hz
 rwa [hz] at s
theorem cmp_neg {x y : Int} : Dg.cmp x y < 0 ↔ x < y:=by unfold Dg.cmp; split <;> (try split) <;> omega
theorem signed_int (gl : List (Nat × AV)) {an bn : Bool} {x y : Int} (hx : 0 <= x) (hy : 0 <= y) (lx : x < Dg.B ^ 128) (ly : y < Dg.B ^ 128) : Spec Tryz.prog gl 66 [.bool an,lim (Dg.mag x),.bool bn,lim (Dg.mag y)] (resZ (sg an x + sg bn y)):=by
 have bx:=Nat.le_trans (Dg.mag_len_lt hx lx) (show 128 <= 1073741824 by decide)
 have by':=Nat.le_trans (Dg.mag_len_lt hy ly) (show 128 <= 1073741824 by decide)
 have l129 : ∀ w,w < Dg.B ^ 128 + Dg.B ^ 128 -> w < Dg.B ^ 129:=by
  intro w hw
  have : Dg.B ^ 129 = Dg.B ^ 128 * Dg.B:=Int.pow_succ ..
  have p:=Dg.pow_pos 128
  have : Dg.B ^ 128 * 2 <= Dg.B ^ 128 * Dg.B:=Int.mul_le_mul_of_nonneg_left (by decide) (Int.le_of_lt p)
  omega
 have hc:=compare_spec gl (Dg.magD x) (Dg.magD y) (Dg.magC x) (Dg.magC y) (mag_lt_len hx lx (by decide))
 rw [Dg.magV hx,Dg.magV hy] at hc
 by_cases h : an = bn
 ·subst h
  have s:=sum_spec gl (Dg.magD x) (Dg.magD y) bx by'
  rw [Dg.magV hx,Dg.magV hy] at s
  exact signed_walk gl (fun _ => ⟨s,result_int gl (by omega) (by unfold sg; split <;> omega) (l129 _ (by omega)) (by decide)⟩) hc (fun g => absurd rfl g) (fun g => absurd rfl g) (resZ_form _)
 ·have hs : sg bn 1 = - sg an 1:=by unfold sg; cases an <;> cases bn <;> simp_all
  by_cases h2 : x < y
  ·have d:=diff_spec gl (Dg.magD y) (Dg.magD x) by' (mag_le hx (Int.le_of_lt h2)) (by rw [Dg.magV hx,Dg.magV hy]; omega)
   rw [Dg.magV hx,Dg.magV hy] at d
   refine signed_walk gl (fun g => absurd g h) hc (fun _ _ => ⟨d,result_int gl (by omega) ?_ (l129 (y - x) (by have:=Dg.pow_pos 128; omega)) (by decide)⟩) (fun _ g => absurd (cmp_neg.2 h2) g) (resZ_form _)
   unfold sg
   cases an <;> cases bn <;> simp_all <;> omega
  ·have d:=diff_spec gl (Dg.magD x) (Dg.magD y) bx (mag_le hy (by omega)) (by rw [Dg.magV hx,Dg.magV hy]; omega)
   rw [Dg.magV hx,Dg.magV hy] at d
   refine signed_walk gl (fun g => absurd g h) hc (fun _ g => absurd (cmp_neg.1 g) h2) (fun _ _ => ⟨d,result_int gl (by omega) ?_ (l129 (x - y) (by have:=Dg.pow_pos 128; omega)) (by decide)⟩) (resZ_form _)
   unfold sg
   cases an <;> cases bn <;> simp_all <;> omega
theorem sg_az (a : Int) : sg (decide (a < 0)) (az a) = a:=sign_az a
theorem add_int (gl : List (Nat × AV)) {a b : Int} (ha : Fits a) (hb : Fits b) : Spec Tryz.prog gl 29 [mkZ a,mkZ b] (resZ (a + b)):=by
 have s1:=both_ok gl ha hb
 have s2:=signed_int gl (an:=decide (a < 0)) (bn:=decide (b < 0)) (az_nn a) (az_nn b) (az_lt ha) (az_lt hb)
 rw [sg_az,sg_az] at s2
 obtain ⟨neg,q,e,hr⟩:=resZ_form (a + b)
 rw [show a + _ = a + b by first | rfl | omega,hr] at s2
 rw [hr]
 clear hr ha hb
 unfold mkZ at *
 generalize decide (a < 0) = n at s1 s2 ⊢
 generalize Dg.mag (az a) = l at s1 s2 ⊢
 generalize decide (b < 0) = m at s1 s2 ⊢
 generalize Dg.mag (az b) = k at s1 s2 ⊢
 refine spec_fn T_ok mixed_ok 1 Tryz.func29 fn_ok29 (by kernel_rfl) ?_
 first | refine Exists.intro _ (And.intro (s1) ?_) | refine Hn_by (Exists.intro _ (And.intro (s1) ?_))
 repeat (first | refine gT ?_ | refine gF ?_ | refine brT ?_ | refine brF ?_)
 first | refine Exists.intro _ (And.intro (s2) ?_) | refine Hn_by (Exists.intro _ (And.intro (s2) ?_))
 exact And.intro (Or.inr rfl) rfl
theorem or32 {v t r : Nat} (hv : v < 2 ^ r) (ht : ∃ a,t = 2 ^ r * a) (h : v + t < 4294967296) : Go.bits .or .u32 (v : Int) (t : Int) = ((v + t : Nat) : Int):=by
 obtain ⟨a,rfl⟩:=ht
 rw [u32_or_nat _ _ (by omega) (by omega),Nat.or_comm,<- Nat.two_pow_add_eq_or_of_lt hv a,Nat.add_comm]
theorem limb_parts {x r : Nat} (hx : x < 4294967296) (hr : r < 32) : x * 2 ^ r < 18446744073709551616∧x * 2 ^ r / 4294967296 < 2 ^ r∧(∃ a,x * 2 ^ r % 4294967296 = 2 ^ r * a)∧x * 2 ^ r % 4294967296 + 2 ^ r <= 4294967296:=by
 have e : (4294967296 : Nat) = 2 ^ r * 2 ^ (32 - r):=by rw [<- Nat.pow_add,show r + (32 - r) = 32 by omega]
 have p : 0 < 2 ^ r:=Nat.pow_pos (by decide)
 have hm : x * 2 ^ r % 4294967296 = 2 ^ r * (x % 2 ^ (32 - r)):=by
  rw [Nat.mul_comm x,show 2 ^ r * x % 4294967296 = 2 ^ r * x % (2 ^ r * 2 ^ (32 - r)) by rw [<- e],Nat.mul_mod_mul_left]
 have hlt : x % 2 ^ (32 - r) + 1 <= 2 ^ (32 - r):=Nat.mod_lt _ (Nat.pow_pos (by decide))
 refine ⟨?_,?_,⟨_,hm⟩,?_⟩
 ·have : 2 ^ r <= 2 ^ 31:=Nat.pow_le_pow_right (by decide) (by omega)
  have:=Nat.mul_le_mul (Nat.le_of_lt hx) this
  omega
 ·refine Nat.div_lt_of_lt_mul ?_
  exact Nat.mul_lt_mul_of_pos_right hx p
 ·rw [hm]
  have : 2 ^ r * (x % 2 ^ (32 - r) + 1) <= 2 ^ r * 2 ^ (32 - r):=Nat.mul_le_mul_left _ hlt
  rw [<- e,Nat.mul_add,Nat.mul_one] at this
  exact this
theorem tdiv32 (n : Nat) : w64 (Int.tdiv (n : Int) 32) = ((n / 32 : Nat) : Int) ∨ 9223372036854775807 < n:=by
 by_cases h : n <= 9223372036854775807
 ·left
  have e : Int.tdiv (n : Int) 32 = ((n / 32 : Nat) : Int):=by rw [Int.ofNat_tdiv]; rfl
  rw [e,w64_eq (by omega)]
 ·right; omega
theorem left_val {o : List Int} {j : Nat} {v lo hi X : Int} (hj : j + 1 < o.length) (hv : o.getD j 0 = v) (hz : o.getD (j + 1) 0 = 0) (ho : Dg.val o = X) :
  Dg.val ((o.set j (v + lo)).set (j + 1) hi) = X + Dg.B ^ j * (lo + Dg.B * hi):=by
 have e : (o.set j (v + lo)).getD (j + 1) 0 = 0:=by
  rw [List.getD_eq_getElem?_getD] at hz ⊢
  rw [List.getElem?_set_ne (by omega)]; exact hz
 rw [Dg.val_set _ _ _ (by simp; omega),e,Dg.val_set _ _ _ (by omega),hv,ho,Int.pow_succ]
 grind
theorem left_spec (gl : List (Nat × AV)) {l : List Int} (hl : Dg.D l) (hla : l.length <= 1048576) {n : Nat} (hn : n <= 1048576) :
  Spec Tryz.prog gl 166 [lim l,.int .i64 (n : Int)] (lim (Dg.mag (Dg.val l * 2 ^ n))):=by
 have la : ((irows .u32 l).length : Int) = l.length:=by rw [irows_len]
 have hW : w64 (Int.tdiv (n : Int) 32) = ((n / 32 : Nat) : Int):=by
  rcases tdiv32 n with h | h
  ·exact h
  ·omega
 have hR : Int.tmod (n : Int) 32 = ((n % 32 : Nat) : Int):=by rw [Int.ofNat_tmod]; rfl
 obtain ⟨w,hw⟩ : ∃ w,w = n / 32:=⟨_,rfl⟩
 obtain ⟨r,hr⟩ : ∃ r,r = n % 32:=⟨_,rfl⟩
 have hnw : n = 32 * w + r:=by omega
 have hr32 : r < 32:=by omega
 have hw15 : w <= 32768:=by omega
 rw [<- hw] at hW
 rw [<- hr] at hR
 have hL : w64 (w64 (((irows .u32 l).length : Int) + w64 (Int.tdiv (n : Int) 32)) + 1) = ((l.length + w + 1 : Nat) : Int):=by
  rw [hW,la,w64_eq (n:=(l.length : Int) + (w : Int)) (by omega),w64_eq (by omega)]; omega
 have hLn : (w64 (w64 (((irows .u32 l).length : Int) + w64 (Int.tdiv (n : Int) 32)) + 1)).toNat = l.length + w + 1:=by omega
 refine spec_fn T_ok mixed_ok 0 Tryz.func166 fn_ok166 (by kernel_rfl) ?_
 refine And.intro (by decide) ?_
 refine And.intro (show (0 : Int) <= w64 (w64 (((irows .u32 l).length : Int) + w64 (Int.tdiv (n : Int) 32)) + 1) by rw [hL]; omega) (And.intro (Int.le_refl _) (And.intro (show w64 (w64 (((irows .u32 l).length : Int) + w64 (Int.tdiv (n : Int) 32)) + 1) * 4 <= 140737488355328 by rw [hL]; omega) (And.intro (show w64 (w64 (((irows .u32 l).length : Int) + w64 (Int.tdiv (n : Int) 32)) + 1) <= maxLen by rw [hL]; simp [maxLen]; omega) ?_)))
 refine aw_loop (fun q : Nat × List Int => stOf [(0,lim l),(1,.int .i64 (n : Int)),(5,.ms 0 0 (l.length + w + 1)),(16,.int .i64 (l.length : Int)),(17,.int .i64 (q.1 : Int))] [(0,.arr (60,1) (irows .u32 q.2) true)] 1)
  (fun q => q.1 <= l.length∧Dg.D q.2∧q.2.length = l.length + w + 1∧(∀ j,q.1 + w < j -> q.2.getD j 0 = 0)∧q.2.getD (q.1 + w) 0 < 2 ^ r∧Dg.val q.2 = Dg.B ^ w * (Dg.val (l.take q.1) * 2 ^ r)) (fun q => l.length - q.1) (0,List.replicate (l.length + w + 1) 0)
  ⟨Nat.zero_le _,Dg.D.rep _,by simp,fun j _ => by simp [List.getD_eq_getElem?_getD,List.getElem?_replicate]; split <;> rfl,?_,by simp [Dg.val_rep,Dg.val]⟩
  (le_by ⟨rfl,rfl,(show AV.ms 0 0 (w64 (w64 (((irows .u32 l).length : Int) + w64 (Int.tdiv (n : Int) 32)) + 1)).toNat = _ by rw [hLn]),int_eq la,rfl,trivial⟩ ⟨(show some (Blk.arr (60,1) (List.replicate (w64 (w64 (((irows .u32 l).length : Int) + w64 (Int.tdiv (n : Int) 32)) + 1)).toNat [AV.int .u32 0]) true) = _ by rw [hLn,irows_rep]),trivial⟩ (Nat.le_refl _)) ?_
 ·simp [List.getD_eq_getElem?_getD,List.getElem?_replicate]
  have : (0 : Int) < 2 ^ r:=Int.pow_pos (by decide)
  split <;> simpa using this
 rintro ⟨i,o⟩ ⟨hi,ho,hol,hz,hc,hv⟩ P hP
 simp only at hi ho hol hz hc hv
 refine br (fun h2 => ?_) (fun h2 => ?_)
 ·have h2' : i < l.length:=by have : (i : Int) < (l.length : Int):=h2; omega
  have lx:=Dg.getD_bd hl i
  have ox:=Dg.getD_bd ho (i + w)
  have i0 : 0 <= (i : Int):=by omega
  have ix : (irows .u32 l)[((i : Int)).toNat]? = some [.int .u32 (l.getD i 0)]:=irows_at (getD_some h2')
  have hI : w64 ((i : Int) + w64 (Int.tdiv (n : Int) 32)) = ((i + w : Nat) : Int):=by rw [hW,w64_eq (by omega)]; omega
  have hI2 : w64 (w64 ((i : Int) + w64 (Int.tdiv (n : Int) 32)) + 1) = ((i + w + 1 : Nat) : Int):=by rw [hI,w64_eq (by omega)]; omega
  have hoi : (irows .u32 o)[0 + (w64 ((i : Int) + w64 (Int.tdiv (n : Int) 32))).toNat]? = some [.int .u32 (o.getD (i + w) 0)]:=irows_at (by rw [hI,Nat.zero_add]; exact getD_some (by simp; omega))
  obtain ⟨x,hx⟩:=Int.eq_ofNat_of_zero_le lx.1
  obtain ⟨v,hvv⟩:=Int.eq_ofNat_of_zero_le ox.1
  simp only [Dg.B] at lx ox
  obtain ⟨p1,p2,p3,p4⟩:=limb_parts (x:=x) (r:=r) (by omega) hr32
  have hvr : v < 2 ^ r:=by
   rw [hvv] at hc
   have e : ((2 ^ r : Nat) : Int) = 2 ^ r:=by simp
   omega
  have et : IntKind.u64.wrap (IntKind.u64.wrap (l.getD i 0) * 2 ^ (min (Int.tmod (n : Int) 32).toNat IntKind.u64.bits)) = ((x * 2 ^ r : Nat) : Int):=by
   rw [hR,Int.toNat_natCast,Nat.min_eq_left (show r <= IntKind.u64.bits from Nat.le_of_lt (Nat.lt_of_lt_of_le hr32 (by decide))),hx]
   have e1 : IntKind.u64.wrap (x : Int) = (x : Int):=u64_in (by omega)
   have e2 : (x : Int) * 2 ^ r = ((x * 2 ^ r : Nat) : Int):=by simp
   rw [e1,e2]
   exact u64_in (by omega)
  have elo : Go.bits .or .u32 (o.getD (i + w) 0) (u32 (IntKind.u64.wrap (IntKind.u64.wrap (l.getD i 0) * 2 ^ (min (Int.tmod (n : Int) 32).toNat IntKind.u64.bits)))) = ((v + x * 2 ^ r % 4294967296 : Nat) : Int):=by
   rw [et,hvv,u32_eq,show ((x * 2 ^ r : Nat) : Int) % 4294967296 = ((x * 2 ^ r % 4294967296 : Nat) : Int) by omega]
   exact or32 hvr p3 (by omega)
  have ehi : u32 (Int.fdiv (IntKind.u64.wrap (IntKind.u64.wrap (l.getD i 0) * 2 ^ (min (Int.tmod (n : Int) 32).toNat IntKind.u64.bits))) (2 ^ 32)) = ((x * 2 ^ r / 4294967296 : Nat) : Int):=by
   rw [et,shr32 (Int.natCast_nonneg _),u32_in (by simp only [Dg.B]; omega)]
   simp only [Dg.B]
   omega
  have hL0 : i + w + 1 < o.length:=by omega
  have hz1:=hz (i + w + 1) (by omega)
  have hoi2 : ((irows .u32 o).set (0 + (w64 ((i : Int) + w64 (Int.tdiv (n : Int) 32))).toNat) [.int .u32 (Go.bits .or .u32 (o.getD (i + w) 0) (u32 (IntKind.u64.wrap (IntKind.u64.wrap (l.getD i 0) * 2 ^ (min (Int.tmod (n : Int) 32).toNat IntKind.u64.bits)))))])[0 + (w64 (w64 ((i : Int) + w64 (Int.tdiv (n : Int) 32)) + 1)).toNat]? = some [.int .u32 0]:=by
   rw [hI2,hI,Nat.zero_add,Nat.zero_add,Int.toNat_natCast,Int.toNat_natCast,List.getElem?_set_ne (by omega)]
   have:=irows_at (k:=.u32) (getD_some (l:=o) (i:=i + w + 1) hL0)
   rw [this,hz1]
  have hw2 : w64 ((i : Int) + 1) = ((i + 1 : Nat) : Int):=by rw [w64_eq (by omega)]; omega
  refine And.intro i0 (Exists.intro _ (And.intro ix ?_))
  refine And.intro (by decide) ?_
  refine And.intro (show 0 <= Int.tmod (n : Int) 32 by rw [hR]; omega) ?_
  refine And.intro (by decide) ?_
  refine And.intro (show (0 : Int) <= w64 ((i : Int) + w64 (Int.tdiv (n : Int) 32)) by rw [hI]; omega) (And.intro (show w64 ((i : Int) + w64 (Int.tdiv (n : Int) 32)) < ((l.length + w + 1 : Nat) : Int) by rw [hI]; omega) (Exists.intro _ (And.intro hoi ?_)))
  refine And.intro (show (0 : Int) <= w64 ((i : Int) + w64 (Int.tdiv (n : Int) 32)) by rw [hI]; omega) (And.intro (show w64 ((i : Int) + w64 (Int.tdiv (n : Int) 32)) < ((l.length + w + 1 : Nat) : Int) by rw [hI]; omega) (Exists.intro _ (And.intro hoi ?_)))
  refine And.intro (by decide) ?_
  refine And.intro (by decide) ?_
  refine And.intro (show (0 : Int) <= w64 (w64 ((i : Int) + w64 (Int.tdiv (n : Int) 32)) + 1) by rw [hI2]; omega) (And.intro (show w64 (w64 ((i : Int) + w64 (Int.tdiv (n : Int) 32)) + 1) < ((l.length + w + 1 : Nat) : Int) by rw [hI2]; omega) (Exists.intro _ (And.intro hoi2 ?_)))
  refine hP (i + 1,(o.set (i + w) ((v : Int) + ((x * 2 ^ r % 4294967296 : Nat) : Int))).set (i + w + 1) ((x * 2 ^ r / 4294967296 : Nat) : Int)) _ (le_by ⟨rfl,rfl,rfl,rfl,int_eq hw2,trivial⟩ ⟨(show some (Blk.arr (60,1) (((irows .u32 o).set (0 + (w64 ((i : Int) + w64 (Int.tdiv (n : Int) 32))).toNat) [.int .u32 (Go.bits .or .u32 (o.getD (i + w) 0) (u32 (IntKind.u64.wrap (IntKind.u64.wrap (l.getD i 0) * 2 ^ (min (Int.tmod (n : Int) 32).toNat IntKind.u64.bits)))))]).set (0 + (w64 (w64 ((i : Int) + w64 (Int.tdiv (n : Int) 32)) + 1)).toNat) [.int .u32 (u32 (Int.fdiv (IntKind.u64.wrap (IntKind.u64.wrap (l.getD i 0) * 2 ^ (min (Int.tmod (n : Int) 32).toNat IntKind.u64.bits))) (2 ^ 32)))]) true) = _ by rw [elo,ehi,hI2,hI,Nat.zero_add,Nat.zero_add,irows_set,irows_set,Int.natCast_add]; rfl),trivial⟩ (Nat.le_refl _))
   ⟨by show i + 1 <= _; omega,(ho.set (by omega) (by simp only [Dg.B]; omega)).set (by omega) (by simp only [Dg.B]; omega),by simp [hol],fun j hj => ?_,?_,?_⟩ (by show l.length - (i + 1) < l.length - i; omega)
  ·have hj' : i + 1 + w < j:=hj
   have:=hz j (by omega)
   show ((o.set (i + w) _).set (i + w + 1) _).getD j 0 = 0
   rw [List.getD_eq_getElem?_getD] at this ⊢
   rw [List.getElem?_set_ne (by omega),List.getElem?_set_ne (by omega)]; exact this
  ·show ((o.set (i + w) _).set (i + w + 1) ((x * 2 ^ r / 4294967296 : Nat) : Int)).getD (i + 1 + w) 0 < 2 ^ r
   rw [show i + 1 + w = i + w + 1 by omega,List.getD_eq_getElem?_getD,List.getElem?_set_self (by simp; omega)]
   have e : ((2 ^ r : Nat) : Int) = 2 ^ r:=by simp
   simp only [Option.getD_some]
   omega
  ·show Dg.val ((o.set (i + w) _).set (i + w + 1) _) = _
   rw [left_val hL0 hvv hz1 hv,Dg.take_succ,hx]
   have e6 : ((x * 2 ^ r % 4294967296 : Nat) : Int) + Dg.B * ((x * 2 ^ r / 4294967296 : Nat) : Int) = (x : Int) * 2 ^ r:=by
    have e2 : (x : Int) * 2 ^ r = ((x * 2 ^ r : Nat) : Int):=by simp
    rw [e2]
    simp only [Dg.B]
    omega
   rw [e6,Int.pow_add]
   grind
 ·have h2' : i = l.length:=by have : ¬ (i : Int) < (l.length : Int):=h2; omega
  subst h2'
  clear hP
  rw [List.take_of_length_le (Nat.le_refl _)] at hv
  have e1 : Dg.val l * 2 ^ n = Dg.val o:=by
   have e2 : (2 : Int) ^ n = Dg.B ^ w * 2 ^ r:=by
    rw [hnw,Int.pow_add,Int.pow_mul]; rfl
   rw [hv,e2]
   grind
  rw [e1]
  have hts:=trimmed_spec gl o (by omega)
  rw [Dg.trim_mag ho] at hts
  have e5 : ((irows .u32 o).drop 0).take (l.length + w + 1) = irows .u32 o:=by
   rw [List.drop_zero,List.take_of_length_le (by rw [irows_len]; omega)]
  rw [show lim o = AV.sl (irows .u32 o) from rfl,<- e5] at hts
  refine And.intro (show 0 + (l.length + w + 1) <= (irows .u32 o).length by rw [irows_len]; omega) ?_
  refine Exists.intro _ (And.intro hts ?_)
  exact And.intro (Or.inr rfl) rfl
theorem pow_cast (n : Nat) : ((2 ^ n : Nat) : Int) = (2 : Int) ^ n:=Int.natCast_pow 2 n
theorem pow_B (k : Nat) : Dg.B ^ k = (2 : Int) ^ (32 * k):=by
 rw [Int.pow_mul]; rfl
theorem two_pow_le {n m : Nat} (h : n <= m) : (2 : Int) ^ n <= 2 ^ m:=by
 rw [<- pow_cast,<- pow_cast]
 exact Int.ofNat_le.2 (Nat.pow_le_pow_right (by decide) h)
theorem two_pow_B {n k : Nat} (h : n <= 32 * k) : (2 : Int) ^ n <= Dg.B ^ k:=by
 rw [pow_B]; exact two_pow_le h
end Ab
