import Derived.Test.YtpjjbhhoagocjaaGreatDoorXGe
import Derived.Laws.MathBits
import Derived.Test.YtpjjbhhoagocjaaGreatDoorXGv
import Derived.Test.YtpjjbhhoagocjaaGreatDoorXGcdP
section
open Go Go.Proofs
namespace Ab
set_option maxRecDepth 100000
set_option maxHeartbeats 1000000
theorem rtrim_spec (gl : List (Nat × AV)) (l : List Int) (hl : (l.length : Int) <= 9223372036854775807) : Spec Tryz.prog gl 146 [lim l] (lim (Dg.trim l)):=by
 refine spec_fn T_ok mixed_ok 0 Tryz.func146 fn_ok146 (by kernel_rfl) ?_
 refine aw_loop (fun n : Nat => stOf [(0,lim (l.take n))] [] 0) (fun n => n <= l.length∧Dg.trim (l.take n) = Dg.trim l) (fun n => n) l.length ⟨Nat.le_refl _,by rw [List.take_length]⟩
  (le_by ⟨(by show AV.sl _ = AV.sl _; rw [List.take_length]),trivial⟩ trivial (Nat.le_refl _)) ?_
 rintro n ⟨hn,ht⟩ P hP
 have len : ((irows .u32 (l.take n)).length : Int) = n:=by rw [irows_len,List.length_take]; omega
 have fin : (n = 0 ∨ ∃ x,l[n - 1]? = some x∧x ≠ 0) -> l.take n = Dg.trim l:=by
  intro hc
  rw [<- ht]
  refine (Dg.trim_of_canon ?_).symm
  intro x hx
  rcases hc with rfl | ⟨y,hy,hy0⟩
  ·simp at hx
  ·have hn0 : n ≠ 0:=fun e => by subst e; simp at hx
   rw [List.getLast?_eq_getElem?,List.length_take,List.getElem?_take] at hx
   have e : min n l.length - 1 = n - 1:=by omega
   rw [e,if_pos (by omega),hy] at hx
   cases hx; exact hy0
 refine br (fun h1 => ?_) (fun h1 => ?_)
 ·have hn0 : 0 < n:=by have : ((irows .u32 (l.take n)).length : Int) > 0:=h1; omega
  obtain ⟨x,hx⟩ : ∃ x,l[n - 1]? = some x:=⟨l[n - 1]'(by omega),List.getElem?_eq_getElem (by omega)⟩
  have hx2 : (l.take n)[n - 1]? = some x:=by rw [List.getElem?_take,if_pos (by omega)]; exact hx
  have hw : w64 (((irows .u32 (l.take n)).length : Int) - 1) = ((n - 1 : Nat) : Int):=by rw [len,w64_eq (by omega)]; omega
  repeat (first | refine gT ?_ | refine gF ?_ | refine brT ?_ | refine brF ?_)
  refine And.intro (show (0 : Int) <= w64 (((irows .u32 (l.take n)).length : Int) - 1) by omega) (Exists.intro _ (And.intro (irows_at (x:=x) (by rw [show (w64 (((irows .u32 (l.take n)).length : Int) - 1)).toNat = n - 1 by omega]; exact hx2)) ?_))
  repeat (first | refine gT ?_ | refine gF ?_ | refine brT ?_ | refine brF ?_)
  refine brE (fun h2 => ?_) (fun h2 => ?_)
  ·subst h2
   refine And.intro (show (0 : Int) <= w64 (((irows .u32 (l.take n)).length : Int) - 1) by omega) (And.intro (show w64 (((irows .u32 (l.take n)).length : Int) - 1) <= ((irows .u32 (l.take n)).length : Int) by omega) (And.intro (irows_ok _ _) ?_))
   refine hP (n - 1) _ (le_by ⟨(by
    show AV.sl (((irows .u32 (l.take n)).take (w64 (((irows .u32 (l.take n)).length : Int) - 1)).toNat).drop 0) = _
    rw [List.drop_zero,irows_take,hw,Int.toNat_natCast,List.take_take,show min (n - 1) n = n - 1 by omega]),trivial⟩ trivial (Nat.le_refl _)) ⟨by omega,?_⟩ (by omega)
   exact trim_take (by omega) hx (by rw [show n - 1 + 1 = n by omega]; exact ht)
  ·clear hP
   rw [fin (.inr ⟨x,hx,h2⟩)]
   exact And.intro (Or.inr rfl) rfl
 ·clear hP
  have hn0 : n = 0:=by have : ¬ ((irows .u32 (l.take n)).length : Int) > 0:=h1; omega
  rw [fin (.inl hn0)]
  repeat (first | refine gT ?_ | refine gF ?_ | refine brT ?_ | refine brF ?_)
  exact And.intro (Or.inr rfl) rfl
theorem rvalid_int (gl : List (Nat × AV)) {z : Int} (h : Fits z) : Spec Tryz.prog gl 143 [mkZ z] (.bool true):=by
 unfold mkZ
 have hC:=Dg.magC (az z)
 have h0:=mag_nil (az_nn z)
 unfold Fits at h
 have hz : Dg.mag (az z) = [] -> decide (z < 0) = false:=by
  intro e
  have:=h0.1 e
  unfold az at this
  exact decide_eq_false (by omega)
 generalize Dg.mag (az z) = l at h hC hz
 have ll : ((irows .u32 l).length : Int) = l.length:=by rw [irows_len]
 by_cases hl : l = []
 ·subst hl
  rw [hz rfl]
  refine spec_fn T_ok mixed_ok 0 Tryz.func143 fn_ok143 (by kernel_rfl) ?_
  repeat (first | refine gT ?_ | refine gF ?_ | refine brT ?_ | refine brF ?_)
  exact And.intro (Or.inr rfl) rfl
 ·have hpos : 0 < l.length:=List.length_pos_iff.2 hl
  have hlast : l[l.length - 1]? = some (l.getD (l.length - 1) 0):=getD_some (by omega)
  have hne : l.getD (l.length - 1) 0 ≠ 0:=hC _ (by rw [List.getLast?_eq_getElem?]; exact hlast)
  have hw : w64 (((irows .u32 l).length : Int) - 1) = ((l.length - 1 : Nat) : Int):=by rw [ll,w64_eq (by omega)]; omega
  generalize decide (z < 0) = neg
  refine spec_fn T_ok mixed_ok 0 Tryz.func143 fn_ok143 (by kernel_rfl) ?_
  refine br (fun e => ?_) (fun _ => ?_)
  ·have : ((irows .u32 l).length : Int) > 128:=e
   omega
  refine brE (fun e => ?_) (fun _ => ?_)
  ·have : ((irows .u32 l).length : Int) = 0:=e
   omega
  refine And.intro (show 0 <= w64 (((irows .u32 l).length : Int) - 1) by rw [hw]; omega) (Exists.intro _ (And.intro (irows_at (x:=l.getD (l.length - 1) 0) (by rw [show IntKind.i64.wrap (((irows .u32 l).length : Int) - 1) = ((l.length - 1 : Nat) : Int) from hw]; exact hlast)) ?_))
  refine And.intro (Or.inr rfl) (congrArg AV.bool ?_)
  show (l.getD (l.length - 1) 0 != 0) = true
  simp only [bne_iff_ne]; exact hne
theorem rOf_spec (gl : List (Nat × AV)) (n : Int) (h0 : -9223372036854775808 <= n) (h1 : n <= 9223372036854775807) : Spec Tryz.prog gl 107 [.int .i64 n] (mkZ n):=by
 have main : ∀ m : Int,m = az n -> Spec Tryz.prog gl 146 [lim [u32 m,u32 (m.fdiv (2 ^ 32))]] (lim (Dg.mag (az n))):=by
  intro m hm
  have hb : 0 <= m∧m < 18446744073709551616:=by rw [hm]; unfold az; omega
  obtain ⟨hd,hv⟩:=two_limbs m hb.1 hb.2
  have:=rtrim_spec gl [u32 m,u32 (m.fdiv (2 ^ 32))] (by simp)
  rw [Dg.trim_mag hd,hv,hm] at this
  rw [hm]
  exact this
 have lm : (Dg.mag (az n)).length <= 2:=Dg.mag_len_lt (az_nn n) (by unfold az; simp only [Dg.B]; omega)
 unfold mkZ
 generalize Dg.mag (az n) = l at *
 have ll : (irows .u32 l).length = l.length:=irows_len _ _
 refine spec_fn T_ok mixed_ok 0 Tryz.func107 fn_ok107 (by kernel_rfl) ?_
 refine br (fun hn => ?_) (fun hn => ?_)
 ·refine And.intro (show (0 : Int) <= 32 by decide) ?_
  refine And.intro (Nat.le_refl 2) ?_
  refine Exists.intro _ (And.intro (main (u64 (0 - u64 n)) (by rw [u64_eq,u64_eq]; unfold az; omega)) ?_)
  refine And.intro rfl ?_
  refine And.intro (irows_ok _ _) ?_
  refine And.intro (show (0 + (irows .u32 l).length) * 4 <= 140737488355328 by omega) ?_
  refine And.intro (show 0 + (irows .u32 l).length <= maxLen by simp only [maxLen]; omega) ?_
  refine And.intro (Or.inr rfl) ?_
  refine And.intro (by simp) ?_
  refine congrArg (fun x => AV.agg [AV.bool (decide (n < 0)),AV.sl x]) (?_ : _ = irows .u32 l)
  simp
 ·refine And.intro (show (0 : Int) <= 32 by decide) ?_
  refine And.intro (Nat.le_refl 2) ?_
  refine Exists.intro _ (And.intro (main (u64 n) (by rw [u64_eq]; unfold az; omega)) ?_)
  refine And.intro rfl ?_
  refine And.intro (irows_ok _ _) ?_
  refine And.intro (show (0 + (irows .u32 l).length) * 4 <= 140737488355328 by omega) ?_
  refine And.intro (show 0 + (irows .u32 l).length <= maxLen by simp only [maxLen]; omega) ?_
  refine And.intro (Or.inr rfl) ?_
  refine And.intro (by simp) ?_
  refine congrArg (fun x => AV.agg [AV.bool (decide (n < 0)),AV.sl x]) (?_ : _ = irows .u32 l)
  simp
end Ab
end
section
open Go Go.Proofs
namespace Ab
set_option maxRecDepth 100000
set_option maxHeartbeats 1000000
theorem bit_part {x V : Int} {r : Nat} (hr : r < 32) : (x + 4294967296 * V) / 2 ^ r % 2 = x / 2 ^ r % 2:=by
 have e : (4294967296 : Int) = 2 ^ r * (2 * 2 ^ (31 - r)):=by
  have : (4294967296 : Int) = 2 ^ 32:=by decide
  rw [this,<- Int.mul_assoc,<- Int.pow_succ,<- Int.pow_add]
  congr 1
  omega
 rw [e,Int.mul_assoc,Int.add_mul_ediv_left _ _ (Int.pow_ne_zero (by decide)),Int.mul_assoc,Int.add_mul_emod_self_left]
theorem bit_plain {l : List Int} (hl : Dg.D l) {k r : Nat} (hk : k < l.length) (hr : r < 32) : Dg.val l / 2 ^ (32 * k + r) % 2 = l.getD k 0 / 2 ^ r % 2:=by
 have e:=Dg.val_split (getD_some hk)
 have b:=Dg.val_take_lt hl k
 have p:=Dg.pow_pos k
 have e2 : Dg.val l / Dg.B ^ k = l.getD k 0 + Dg.B * Dg.val (l.drop (k + 1)):=by
  rw [e,Int.add_mul_ediv_left _ _ (by omega),Int.ediv_eq_zero_of_lt b.1 b.2,Int.zero_add]
 rw [Int.pow_add,<- pow_B,<- Int.ediv_ediv_of_nonneg (Int.le_of_lt p),e2]
 exact bit_part hr
theorem and1 (z : Int) (h0 : 0 <= z) (h1 : z < 4294967296) : Go.bits .and .u32 z 1 = z % 2:=by go_bits2
theorem tdiv_nat (n : Nat) (h : n < 1000000000000) : w64 (Int.tdiv (n : Int) 32) = ((n / 32 : Nat) : Int):=by
 rw [Int.tdiv_eq_ediv_of_nonneg (by omega),w64_eq (by omega)]
 omega
theorem bit_spec (gl : List (Nat × AV)) {l : List Int} (hl : Dg.D l) {i : Nat} (hi : i < 1000000000000) : Spec Tryz.prog gl 173 [lim l,.int .i64 (i : Int)] (.int .u32 (Dg.val l / 2 ^ i % 2)):=by
 have ll : ((irows .u32 l).length : Int) = l.length:=by rw [irows_len]
 have td:=tdiv_nat i hi
 by_cases h : i / 32 < l.length
 ·have ex : (irows .u32 l)[(w64 (Int.tdiv (i : Int) 32)).toNat]? = some [.int .u32 (l.getD (i / 32) 0)]:=irows_at (by rw [td,Int.toNat_natCast]; exact getD_some h)
  have bd:=Dg.getD_bd hl (i / 32)
  have bp:=bit_plain hl h (r:=i % 32) (by omega)
  rw [show 32 * (i / 32) + i % 32 = i by omega] at bp
  rw [bp]
  refine spec_fn T_ok mixed_ok 0 Tryz.func173 fn_ok173 (by kernel_rfl) ?_
  refine And.intro (show (32 : Int) ≠ 0 by decide) ?_
  refine br (fun h2 => ?_) (fun _ => ?_)
  ·have h2' : w64 (Int.tdiv (i : Int) 32) ≥ ((irows .u32 l).length : Int):=h2
   omega
  refine And.intro (show (32 : Int) ≠ 0 by decide) ?_
  refine And.intro (show 0 <= w64 (Int.tdiv (i : Int) 32) by omega) (Exists.intro _ (And.intro ex ?_))
  refine And.intro (show (32 : Int) ≠ 0 by decide) ?_
  refine And.intro ?_ ?_
  ·exact (show (0 : Int) <= Int.tmod (i : Int) 32 from Int.natCast_nonneg (i % 32))
  refine And.intro (Or.inr rfl) (congrArg (AV.int .u32) ?_)
  have e : min (Int.tmod (i : Int) 32).toNat IntKind.u32.bits = i % 32:=by
   have : (Int.tmod (i : Int) 32) = ((i % 32 : Nat) : Int):=rfl
   rw [this,Int.toNat_natCast]
   exact Nat.min_eq_left (Nat.le_of_lt (Nat.mod_lt _ (by decide)))
  have p : (0 : Int) < 2 ^ (i % 32):=Int.pow_pos (by decide)
  have q0:=Int.ediv_nonneg bd.1 (Int.le_of_lt p)
  have q1 : l.getD (i / 32) 0 / 2 ^ (i % 32) <= l.getD (i / 32) 0:=Int.ediv_le_self _ bd.1
  show Go.bits .and .u32 ((l.getD (i / 32) 0).fdiv (2 ^ min (Int.tmod (i : Int) 32).toNat IntKind.u32.bits)) 1 = _
  rw [e,Int.fdiv_eq_ediv_of_nonneg _ (Int.le_of_lt p)]
  exact and1 _ q0 (by simp only [Dg.B] at bd; omega)
 ·have hz : Dg.val l / 2 ^ i = 0:=by
   have a:=Dg.val_lt hl
   rw [pow_B] at a
   have b:=two_pow_le (n:=32 * l.length) (m:=i) (by omega)
   exact Int.ediv_eq_zero_of_lt (Dg.val_nonneg hl) (by omega)
  rw [hz]
  refine spec_fn T_ok mixed_ok 0 Tryz.func173 fn_ok173 (by kernel_rfl) ?_
  refine And.intro (show (32 : Int) ≠ 0 by decide) ?_
  refine br (fun _ => ?_) (fun h2 => ?_)
  ·exact And.intro (Or.inr rfl) rfl
  ·have h2' : ¬ w64 (Int.tdiv (i : Int) 32) ≥ ((irows .u32 l).length : Int):=h2
   omega
end Ab
end
section
open Go Go.Proofs
namespace Ab
set_option maxRecDepth 100000
set_option maxHeartbeats 1000000
theorem order_spec (gl : List (Nat × AV)) {a b : List Int} (ha : Dg.D a) (hb : Dg.D b) (ca : Dg.Canon a) (cb : Dg.Canon b) (hl : a.length <= 1073741824) :
  Spec Tryz.prog gl 175 [lim a,lim b] (.int .i64 (Dg.cmp (Dg.val a) (Dg.val b))):=by
 refine spec_fn T_ok mixed_ok 0 Tryz.func175 fn_ok175 (by kernel_rfl) ?_
 have ea:=irows_len .u32 a
 have eb:=irows_len .u32 b
 refine brN (fun h1 => ?_) (fun h1 => ?_)
 ·refine br (fun h2 => ?_) (fun h2 => ?_)
  ·refine And.intro (Or.inr rfl) ?_
   have:=Dg.lt_len ha hb cb (by have : ((irows .u32 a).length : Int) < ((irows .u32 b).length : Int):=h2; omega)
   show AV.int .i64 (-1) = _
   unfold Dg.cmp; rw [if_pos this]
  ·refine And.intro (Or.inr rfl) ?_
   have:=Dg.lt_len hb ha ca (by have : ¬ ((irows .u32 a).length : Int) < ((irows .u32 b).length : Int):=h2; omega)
   show AV.int .i64 1 = _
   unfold Dg.cmp; rw [if_neg (by omega),if_pos this]
 ·have hlen : a.length = b.length:=by omega
  refine aw_loop (fun k : Nat => stOf [(0,lim a),(1,lim b),(5,.int .i64 ((k : Int) - 1))] [] 0) (fun k => k <= a.length∧a.drop k = b.drop k) (fun k => k) a.length
   ⟨Nat.le_refl _,by rw [List.drop_length,hlen,List.drop_length]⟩ (le_by ⟨rfl,rfl,int_eq (by rw [irows_len]; exact w64_eq (by omega)),trivial⟩ trivial (Nat.le_refl _)) ?_
  rintro k ⟨hk,hd⟩ P hP
  refine br (fun h2 => ?_) (fun h2 => ?_)
  ·have h2' : 0 < k:=by have : (k : Int) - 1 ≥ 0:=h2; omega
   obtain ⟨x,hx⟩ : ∃ x,a[k - 1]? = some x:=⟨a[k - 1]'(by omega),List.getElem?_eq_getElem (by omega)⟩
   obtain ⟨y,hy⟩ : ∃ y,b[k - 1]? = some y:=⟨b[k - 1]'(by omega),List.getElem?_eq_getElem (by omega)⟩
   have hd' : a.drop (k - 1 + 1) = b.drop (k - 1 + 1):=by rw [show k - 1 + 1 = k by omega]; exact hd
   have ix : (irows .u32 a)[((k : Int) - 1).toNat]? = some [.int .u32 x]:=irows_at (by rw [show ((k : Int) - 1).toNat = k - 1 by omega]; exact hx)
   have iy : (irows .u32 b)[((k : Int) - 1).toNat]? = some [.int .u32 y]:=irows_at (by rw [show ((k : Int) - 1).toNat = k - 1 by omega]; exact hy)
   have i0 : 0 <= (k : Int) - 1:=by omega
   refine And.intro (by kernel_rfl) (And.intro i0 (Exists.intro _ (And.intro ix (And.intro i0 (Exists.intro _ (And.intro iy ?_))))))
   refine br (fun h4 => ?_) (fun h4 => ?_)
   ·refine And.intro (Or.inr rfl) ?_
    have:=Dg.lt_at ha hb hx hy hd' h4
    show AV.int .i64 (-1) = _
    unfold Dg.cmp; rw [if_pos this]
   ·refine And.intro (by kernel_rfl) (And.intro i0 (Exists.intro _ (And.intro ix (And.intro i0 (Exists.intro _ (And.intro iy ?_))))))
    refine br (fun h5 => ?_) (fun h5 => ?_)
    ·refine And.intro (Or.inr rfl) ?_
     have:=Dg.lt_at hb ha hy hx hd'.symm (by have : x > y:=h5; omega)
     show AV.int .i64 1 = _
     unfold Dg.cmp; rw [if_neg (by omega),if_pos this]
    ·have hw2 : w64 ((k : Int) - 1 - 1) = ((k - 1 : Nat) : Int) - 1:=by rw [w64_eq (by omega)]; omega
     refine hP (k - 1) _ (le_by ⟨rfl,rfl,int_eq hw2,trivial⟩ trivial (Nat.le_refl _)) ⟨by omega,?_⟩ (by omega)
     have e1:=List.getElem?_eq_some_iff.1 hx; have e2:=List.getElem?_eq_some_iff.1 hy
     rw [<- List.getElem_cons_drop e1.1,<- List.getElem_cons_drop e2.1,hd',e1.2,e2.2]
     have h6 : x = y:=by have g4 : ¬ x < y:=h4; have g5 : ¬ x > y:=h5; omega
     rw [h6]
  ·have h2' : k = 0:=by have : ¬ (k : Int) - 1 ≥ 0:=h2; omega
   subst h2'
   clear hP
   rw [List.drop_zero,List.drop_zero] at hd
   refine And.intro (Or.inr rfl) ?_
   show AV.int .i64 0 = _
   rw [hd]; unfold Dg.cmp; rw [if_neg (by omega),if_neg (by omega)]
end Ab
end
section
open Go Go.Proofs
namespace Ab
set_option maxRecDepth 100000
set_option maxHeartbeats 1000000
theorem minus_spec (gl : List (Nat × AV)) {a b : List Int} (ha : Dg.D a) (hb : Dg.D b) (hla : a.length <= 1073741824) (hab : b.length <= a.length) (hv0 : Dg.val b <= Dg.val a) :
  Spec Tryz.prog gl 176 [lim a,lim b] (lim (Dg.mag (Dg.val a - Dg.val b))):=by
 refine spec_fn T_ok mixed_ok 0 Tryz.func176 fn_ok176 (by kernel_rfl) ?_
 have hn2 : ((irows .u32 a).length : Int).toNat = a.length:=by rw [irows_len]; omega
 have la : ((irows .u32 a).length : Int) = a.length:=by rw [irows_len]
 refine And.intro (show (0 : Int) <= ((irows .u32 a).length : Int) by omega) (And.intro (Int.le_refl _) (And.intro (show ((irows .u32 a).length : Int) * 4 <= 140737488355328 by omega) (And.intro (show ((irows .u32 a).length : Int) <= maxLen by simp [maxLen]; omega) ?_)))
 refine aw_loop (fun q : Nat × List Int × Int => stOf [(0,lim a),(1,lim b),(5,.ms 0 0 a.length),(6,.int .u64 q.2.2),(7,.int .i64 (q.1 : Int))] [(0,.arr (60,1) (irows .u32 q.2.1) true)] 1)
  (fun q => q.1 <= a.length∧Dg.D q.2.1∧q.2.1.length = a.length∧(0 <= q.2.2∧q.2.2 <= 1)∧Dg.val (q.2.1.take q.1) - Dg.B ^ q.1 * q.2.2 = Dg.val (a.take q.1) - Dg.val (b.take q.1)) (fun q => a.length - q.1) (0,List.replicate a.length 0,0)
  ⟨Nat.zero_le _,Dg.D.rep _,by simp,⟨Int.le_refl 0,by show (0 : Int) <= 1; decide⟩,by simp [Dg.val]⟩
  (le_by ⟨rfl,rfl,(show AV.ms 0 0 ((irows .u32 a).length : Int).toNat = _ by rw [hn2]),rfl,rfl,trivial⟩ ⟨(show some (Blk.arr (60,1) (List.replicate ((irows .u32 a).length : Int).toNat [AV.int .u32 0]) true) = _ by rw [hn2,irows_rep]),trivial⟩ (Nat.le_refl _)) ?_
 rintro ⟨i,o,c⟩ ⟨hi,ho,hol,hc,hv⟩ P hP
 simp only at hi ho hol hc hv
 refine br (fun h2 => ?_) (fun h2 => ?_)
 ·have h2' : i < a.length:=by have : (i : Int) < ((irows .u32 a).length : Int):=h2; omega
  have ax:=Dg.getD_bd ha i
  have bx:=Dg.getD_bd hb i
  have ix : (irows .u32 a)[((i : Int)).toNat]? = some [.int .u32 (a.getD i 0)]:=irows_at (getD_some h2')
  simp only [Dg.B] at ax bx
  have hw2 : w64 ((i : Int) + 1) = ((i + 1 : Nat) : Int):=by rw [w64_eq (by omega)]; omega
  have hoi : (irows .u32 o)[0 + ((i : Int)).toNat]? = some [.int .u32 (o.getD i 0)]:=irows_at (by rw [Nat.zero_add]; exact getD_some (by omega))
  refine br (fun h3 => ?_) (fun h3 => ?_)
  ·have h3' : i < b.length:=by have : (i : Int) < ((irows .u32 b).length : Int):=h3; rw [irows_len] at this; omega
   have iy : (irows .u32 b)[((i : Int)).toNat]? = some [.int .u32 (b.getD i 0)]:=irows_at (getD_some h3')
   refine And.intro (show (0 : Int) <= (i : Int) by omega) (Exists.intro _ (And.intro iy ?_))
   have es : u64 (c + u64 (b.getD i 0)) = b.getD i 0 + c:=by rw [u64_in (n:=b.getD i 0) (by omega),u64_in (by omega)]; omega
   refine And.intro (show (0 : Int) <= (i : Int) by omega) (Exists.intro _ (And.intro ix ?_))
   refine br (fun h5 => ?_) (fun h5 => ?_)
   ·have h5' : a.getD i 0 < b.getD i 0 + c:=by
     have : u64 (a.getD i 0) < u64 (c + u64 (b.getD i 0)):=h5
     rw [u64_in (n:=a.getD i 0) (by omega)] at this
     omega
    have e2 : u64 (u64 (u64 (a.getD i 0) + 4294967296) - u64 (c + u64 (b.getD i 0))) = a.getD i 0 - b.getD i 0 - c + 4294967296:=by rw [u64_in (n:=a.getD i 0) (by omega),u64_in (n:=a.getD i 0 + 4294967296) (by omega),u64_in (n:=a.getD i 0 + 4294967296 - u64 (c + u64 (b.getD i 0))) (by omega)]; omega
    refine And.intro (show (0 : Int) <= (i : Int) by omega) (Exists.intro _ (And.intro ix ?_))
    refine And.intro (show (0 : Int) <= (i : Int) by omega) (And.intro (show (i : Int) < (a.length : Int) by omega) (Exists.intro _ (And.intro hoi ?_)))
    have e3 : u32 (u64 (u64 (u64 (a.getD i 0) + 4294967296) - u64 (c + u64 (b.getD i 0)))) = (a.getD i 0 - b.getD i 0 - c) % Dg.B:=by rw [e2,u32_eq] <;> simp only [Dg.B] <;> omega
    refine hP (i + 1,o.set i ((a.getD i 0 - b.getD i 0 - c) % Dg.B),1) _ (le_by ⟨rfl,rfl,rfl,rfl,int_eq hw2,trivial⟩ ⟨(show some (Blk.arr (60,1) ((irows .u32 o).set (0 + (i : Int).toNat) [.int .u32 (u32 (u64 (u64 (u64 (a.getD i 0) + 4294967296) - u64 (c + u64 (b.getD i 0)))))]) true) = _ by rw [e3,Nat.zero_add,irows_set]; rfl),trivial⟩ (Nat.le_refl _))
     ⟨by show i + 1 <= _; omega,ho.set (by simp only [Dg.B]; omega) (by simp only [Dg.B]; omega),by simp [hol],by show (0 : Int) <= 1∧(1 : Int) <= 1; decide,?_⟩ (by show a.length - (i + 1) < a.length - i; omega)
    show Dg.val ((o.set i _).take (i + 1)) - Dg.B ^ (i + 1) * 1 = _
    rw [Dg.set_take _ _ _ (by omega),Dg.take_succ a,Dg.take_succ b,Int.pow_succ]
    have e6 : (a.getD i 0 - b.getD i 0 - c) % Dg.B = (a.getD i 0 - b.getD i 0 - c) + Dg.B * 1:=by simp only [Dg.B]; omega
    rw [e6]
    generalize Dg.B ^ i = P at *
    grind
   ·have h5' : ¬ a.getD i 0 < b.getD i 0 + c:=by
     have : ¬ u64 (a.getD i 0) < u64 (c + u64 (b.getD i 0)):=h5
     rw [u64_in (n:=a.getD i 0) (by omega)] at this
     omega
    have e2 : u64 (u64 (a.getD i 0) - u64 (c + u64 (b.getD i 0))) = a.getD i 0 - b.getD i 0 - c:=by rw [u64_in (n:=a.getD i 0) (by omega),u64_in (n:=a.getD i 0 - u64 (c + u64 (b.getD i 0))) (by omega)]; omega
    refine And.intro (show (0 : Int) <= (i : Int) by omega) (Exists.intro _ (And.intro ix ?_))
    refine And.intro (show (0 : Int) <= (i : Int) by omega) (And.intro (show (i : Int) < (a.length : Int) by omega) (Exists.intro _ (And.intro hoi ?_)))
    have e3 : u32 (u64 (u64 (a.getD i 0) - u64 (c + u64 (b.getD i 0)))) = (a.getD i 0 - b.getD i 0 - c) % Dg.B:=by rw [e2,u32_eq] <;> simp only [Dg.B] <;> omega
    refine hP (i + 1,o.set i ((a.getD i 0 - b.getD i 0 - c) % Dg.B),0) _ (le_by ⟨rfl,rfl,rfl,rfl,int_eq hw2,trivial⟩ ⟨(show some (Blk.arr (60,1) ((irows .u32 o).set (0 + (i : Int).toNat) [.int .u32 (u32 (u64 (u64 (a.getD i 0) - u64 (c + u64 (b.getD i 0)))))]) true) = _ by rw [e3,Nat.zero_add,irows_set]; rfl),trivial⟩ (Nat.le_refl _))
     ⟨by show i + 1 <= _; omega,ho.set (by simp only [Dg.B]; omega) (by simp only [Dg.B]; omega),by simp [hol],by show (0 : Int) <= 0∧(0 : Int) <= 1; decide,?_⟩ (by show a.length - (i + 1) < a.length - i; omega)
    show Dg.val ((o.set i _).take (i + 1)) - Dg.B ^ (i + 1) * 0 = _
    rw [Dg.set_take _ _ _ (by omega),Dg.take_succ a,Dg.take_succ b,Int.pow_succ]
    have e6 : (a.getD i 0 - b.getD i 0 - c) % Dg.B = (a.getD i 0 - b.getD i 0 - c) + Dg.B * 0:=by simp only [Dg.B]; omega
    rw [e6]
    generalize Dg.B ^ i = P at *
    grind
  ·have h3' : ¬ i < b.length:=by have : ¬ (i : Int) < ((irows .u32 b).length : Int):=h3; rw [irows_len] at this; omega
   have b0 : b.getD i 0 = 0:=by rw [List.getD_eq_getElem?_getD,List.getElem?_eq_none (by omega)]; rfl
   refine And.intro (show (0 : Int) <= (i : Int) by omega) (Exists.intro _ (And.intro ix ?_))
   refine br (fun h5 => ?_) (fun h5 => ?_)
   ·have h5' : a.getD i 0 < b.getD i 0 + c:=by
     have : u64 (a.getD i 0) < c:=h5
     rw [u64_in (n:=a.getD i 0) (by omega)] at this
     omega
    have e2 : u64 (u64 (u64 (a.getD i 0) + 4294967296) - c) = a.getD i 0 - b.getD i 0 - c + 4294967296:=by rw [u64_in (n:=a.getD i 0) (by omega),u64_in (n:=a.getD i 0 + 4294967296) (by omega),u64_in (n:=a.getD i 0 + 4294967296 - c) (by omega)]; omega
    refine And.intro (show (0 : Int) <= (i : Int) by omega) (Exists.intro _ (And.intro ix ?_))
    refine And.intro (show (0 : Int) <= (i : Int) by omega) (And.intro (show (i : Int) < (a.length : Int) by omega) (Exists.intro _ (And.intro hoi ?_)))
    have e3 : u32 (u64 (u64 (u64 (a.getD i 0) + 4294967296) - c)) = (a.getD i 0 - b.getD i 0 - c) % Dg.B:=by rw [e2,u32_eq] <;> simp only [Dg.B] <;> omega
    refine hP (i + 1,o.set i ((a.getD i 0 - b.getD i 0 - c) % Dg.B),1) _ (le_by ⟨rfl,rfl,rfl,rfl,int_eq hw2,trivial⟩ ⟨(show some (Blk.arr (60,1) ((irows .u32 o).set (0 + (i : Int).toNat) [.int .u32 (u32 (u64 (u64 (u64 (a.getD i 0) + 4294967296) - c)))]) true) = _ by rw [e3,Nat.zero_add,irows_set]; rfl),trivial⟩ (Nat.le_refl _))
     ⟨by show i + 1 <= _; omega,ho.set (by simp only [Dg.B]; omega) (by simp only [Dg.B]; omega),by simp [hol],by show (0 : Int) <= 1∧(1 : Int) <= 1; decide,?_⟩ (by show a.length - (i + 1) < a.length - i; omega)
    show Dg.val ((o.set i _).take (i + 1)) - Dg.B ^ (i + 1) * 1 = _
    rw [Dg.set_take _ _ _ (by omega),Dg.take_succ a,Dg.take_succ b,Int.pow_succ]
    have e6 : (a.getD i 0 - b.getD i 0 - c) % Dg.B = (a.getD i 0 - b.getD i 0 - c) + Dg.B * 1:=by simp only [Dg.B]; omega
    rw [e6]
    generalize Dg.B ^ i = P at *
    grind
   ·have h5' : ¬ a.getD i 0 < b.getD i 0 + c:=by
     have : ¬ u64 (a.getD i 0) < c:=h5
     rw [u64_in (n:=a.getD i 0) (by omega)] at this
     omega
    have e2 : u64 (u64 (a.getD i 0) - c) = a.getD i 0 - b.getD i 0 - c:=by rw [u64_in (n:=a.getD i 0) (by omega),u64_in (n:=a.getD i 0 - c) (by omega)]; omega
    refine And.intro (show (0 : Int) <= (i : Int) by omega) (Exists.intro _ (And.intro ix ?_))
    refine And.intro (show (0 : Int) <= (i : Int) by omega) (And.intro (show (i : Int) < (a.length : Int) by omega) (Exists.intro _ (And.intro hoi ?_)))
    have e3 : u32 (u64 (u64 (a.getD i 0) - c)) = (a.getD i 0 - b.getD i 0 - c) % Dg.B:=by rw [e2,u32_eq] <;> simp only [Dg.B] <;> omega
    refine hP (i + 1,o.set i ((a.getD i 0 - b.getD i 0 - c) % Dg.B),0) _ (le_by ⟨rfl,rfl,rfl,rfl,int_eq hw2,trivial⟩ ⟨(show some (Blk.arr (60,1) ((irows .u32 o).set (0 + (i : Int).toNat) [.int .u32 (u32 (u64 (u64 (a.getD i 0) - c)))]) true) = _ by rw [e3,Nat.zero_add,irows_set]; rfl),trivial⟩ (Nat.le_refl _))
     ⟨by show i + 1 <= _; omega,ho.set (by simp only [Dg.B]; omega) (by simp only [Dg.B]; omega),by simp [hol],by show (0 : Int) <= 0∧(0 : Int) <= 1; decide,?_⟩ (by show a.length - (i + 1) < a.length - i; omega)
    show Dg.val ((o.set i _).take (i + 1)) - Dg.B ^ (i + 1) * 0 = _
    rw [Dg.set_take _ _ _ (by omega),Dg.take_succ a,Dg.take_succ b,Int.pow_succ]
    have e6 : (a.getD i 0 - b.getD i 0 - c) % Dg.B = (a.getD i 0 - b.getD i 0 - c) + Dg.B * 0:=by simp only [Dg.B]; omega
    rw [e6]
    generalize Dg.B ^ i = P at *
    grind
 ·have h2' : i = a.length:=by have : ¬ (i : Int) < ((irows .u32 a).length : Int):=h2; omega
  subst h2'
  clear hP
  rw [List.take_of_length_le (by omega),List.take_of_length_le (Nat.le_refl _),List.take_of_length_le hab] at hv
  have hlt:=Dg.val_lt ho
  rw [hol] at hlt
  have hc0 : c = 0:=by
   refine Classical.byContradiction fun hc0 => ?_
   have : c = 1:=by omega
   subst this
   omega
  subst hc0
  have hts:=rtrim_spec gl o (by omega)
  rw [Dg.trim_mag ho,show Dg.val o = Dg.val a - Dg.val b by omega] at hts
  have e5 : ((irows .u32 o).drop 0).take a.length = irows .u32 o:=by
   rw [List.drop_zero,List.take_of_length_le (by rw [irows_len]; omega)]
  rw [show lim o = AV.sl (irows .u32 o) from rfl,<- e5] at hts
  refine And.intro (show 0 + a.length <= (irows .u32 o).length by rw [irows_len]; omega) ?_
  refine Exists.intro _ (And.intro hts ?_)
  exact And.intro (Or.inr rfl) rfl
end Ab
end
section
open Go Go.Proofs
namespace Ab
set_option maxRecDepth 100000
set_option maxHeartbeats 1000000
theorem short_spec (gl : List (Nat × AV)) {a : List Int} {d : Int} (ha : Dg.D a) (hd : 0 < d∧d < 4294967296) (hla : a.length <= 1073741824) :
  Spec Tryz.prog gl 184 [lim a,.int .u32 d] (.tup [lim (Dg.mag (Dg.val a / d)),.int .u32 (Dg.val a % d)]):=by
 refine spec_fn T_ok mixed_ok 0 Tryz.func184 fn_ok184 (by kernel_rfl) ?_
 have hn2 : ((irows .u32 a).length : Int).toNat = a.length:=by rw [irows_len]; omega
 have la : ((irows .u32 a).length : Int) = a.length:=by rw [irows_len]
 have hdu : u64 d = d:=u64_in (by omega)
 refine And.intro (show (0 : Int) <= ((irows .u32 a).length : Int) by omega) (And.intro (Int.le_refl _) (And.intro (show ((irows .u32 a).length : Int) * 4 <= 140737488355328 by omega) (And.intro (show ((irows .u32 a).length : Int) <= maxLen by simp [maxLen]; omega) ?_)))
 refine aw_loop (fun q : Nat × List Int × Int => stOf [(0,lim a),(1,.int .u32 d),(6,.ms 0 0 a.length),(7,.int .u64 q.2.2),(8,.int .i64 ((q.1 : Int) - 1))] [(0,.arr (60,1) (irows .u32 q.2.1) true)] 1)
  (fun q => q.1 <= a.length∧Dg.D q.2.1∧q.2.1.length = a.length∧(0 <= q.2.2∧q.2.2 < d)∧Dg.val (q.2.1.drop q.1) * d + q.2.2 = Dg.val (a.drop q.1)) (fun q => q.1) (a.length,List.replicate a.length 0,0)
  ⟨Nat.le_refl _,Dg.D.rep _,by simp,⟨Int.le_refl 0,hd.1⟩,by simp [Dg.val]⟩
  (le_by ⟨rfl,rfl,(show AV.ms 0 0 ((irows .u32 a).length : Int).toNat = _ by rw [hn2]),rfl,int_eq (by rw [irows_len]; exact w64_eq (by omega)),trivial⟩ ⟨(show some (Blk.arr (60,1) (List.replicate ((irows .u32 a).length : Int).toNat [AV.int .u32 0]) true) = _ by rw [hn2,irows_rep]),trivial⟩ (Nat.le_refl _)) ?_
 rintro ⟨j,o,r⟩ ⟨hk,ho,hol,hr,hv⟩ P hP
 simp only at hk ho hol hr hv
 refine br (fun h2 => ?_) (fun h2 => ?_)
 ·have h2' : 0 < j:=by have : (j : Int) - 1 ≥ 0:=h2; omega
  obtain ⟨i,hi⟩ : ∃ i,i = j - 1:=⟨_,rfl⟩
  have hw : ((j : Int) - 1).toNat = i:=by omega
  have ax:=Dg.getD_bd ha i
  simp only [Dg.B] at ax
  have ix : (irows .u32 a)[((j : Int) - 1).toNat]? = some [.int .u32 (a.getD i 0)]:=irows_at (by rw [hw]; exact getD_some (by omega))
  have i0 : 0 <= (j : Int) - 1:=by omega
  have hoi : (irows .u32 o)[0 + ((j : Int) - 1).toNat]? = some [.int .u32 (o.getD i 0)]:=irows_at (by rw [Nat.zero_add,hw]; exact getD_some (by omega))
  obtain ⟨t,ht⟩ : ∃ t,t = r * 4294967296 + a.getD i 0:=⟨_,rfl⟩
  have ht0 : 0 <= t∧t < 18446744073709551616:=by omega
  have et : u64 (u64 (r * 4294967296) + u64 (a.getD i 0)) = t:=by rw [u64_in (n:=r * 4294967296) (by omega),u64_in (n:=a.getD i 0) (by omega),<- ht,u64_in ht0]
  have htd : t / d < 4294967296:=Int.ediv_lt_of_lt_mul hd.1 (by
   have : (r + 1) * 4294967296 <= d * 4294967296:=Int.mul_le_mul_of_nonneg_right (by omega) (by decide)
   rw [Int.add_mul,Int.one_mul] at this
   rw [Int.mul_comm]; omega)
  have htd0 : 0 <= t / d:=Int.ediv_nonneg ht0.1 (by omega)
  have htm:=Int.emod_nonneg t (show d ≠ 0 by omega)
  have htm2:=Int.emod_lt_of_pos t hd.1
  have hd0 : u64 d ≠ 0:=by omega
  refine And.intro i0 (Exists.intro _ (And.intro ix ?_))
  refine And.intro hd0 (And.intro i0 (And.intro (show (j : Int) - 1 < (a.length : Int) by omega) (Exists.intro _ (And.intro hoi ?_))))
  refine And.intro hd0 ?_
  have e3 : u32 (u64 ((u64 (u64 (r * 4294967296) + u64 (a.getD i 0))).tdiv (u64 d))) = t / d:=by
   rw [et,hdu,Int.tdiv_eq_ediv_of_nonneg ht0.1,u64_in (by omega),u32_in (by omega)]
  have e4 : (u64 (u64 (r * 4294967296) + u64 (a.getD i 0))).tmod (u64 d) = t % d:=by
   rw [et,hdu,Int.tmod_eq_emod_of_nonneg ht0.1]
  have hw2 : w64 ((j : Int) - 1 - 1) = ((i : Nat) : Int) - 1:=by rw [w64_eq (by omega)]; omega
  refine hP (i,o.set i (t / d),t % d) _ (le_by ⟨rfl,rfl,rfl,int_eq e4,int_eq hw2,trivial⟩ ⟨(show some (Blk.arr (60,1) ((irows .u32 o).set (0 + ((j : Int) - 1).toNat) [.int .u32 (u32 (u64 ((u64 (u64 (r * 4294967296) + u64 (a.getD i 0))).tdiv (u64 d))))]) true) = _ by rw [e3,Nat.zero_add,hw,irows_set]),trivial⟩ (Nat.le_refl _))
   ⟨by show i <= _; omega,ho.set htd0 htd,by simp [hol],⟨htm,htm2⟩,?_⟩ (by show i < j; omega)
  show Dg.val ((o.set i (t / d)).drop i) * d + t % d = _
  rw [show j = i + 1 by omega] at hv
  have e5 : (o.set i (t / d)).drop i = t / d :: o.drop (i + 1):=by
   rw [List.drop_set,if_neg (by omega),Nat.sub_self,List.drop_eq_getElem_cons (by omega)]; rfl
  have e6 : a.drop i = a.getD i 0 :: a.drop (i + 1):=by
   rw [List.drop_eq_getElem_cons (by omega),List.getD_eq_getElem?_getD,List.getElem?_eq_getElem (by omega)]; rfl
  rw [e5,e6,Dg.val,Dg.val,<- hv]
  have:=Int.emod_add_mul_ediv t d
  simp only [Dg.B]
  grind
 ·have h2' : j = 0:=by have : ¬ (j : Int) - 1 ≥ 0:=h2; omega
  subst h2'
  clear hP
  rw [List.drop_zero,List.drop_zero] at hv
  have hq : Dg.val o = Dg.val a / d∧r = Dg.val a % d:=by
   rw [<- hv,Int.mul_comm]
   refine ⟨?_,?_⟩
   ·rw [Int.add_comm,Int.add_mul_ediv_left _ _ (by omega),Int.ediv_eq_zero_of_lt hr.1 hr.2,Int.zero_add]
   ·rw [Int.add_comm,Int.add_mul_emod_self_left,Int.emod_eq_of_lt hr.1 hr.2]
  have hts:=rtrim_spec gl o (by omega)
  rw [Dg.trim_mag ho,hq.1] at hts
  have e5 : ((irows .u32 o).drop 0).take a.length = irows .u32 o:=by
   rw [List.drop_zero,List.take_of_length_le (by rw [irows_len]; omega)]
  rw [show lim o = AV.sl (irows .u32 o) from rfl,<- e5] at hts
  refine And.intro (show 0 + a.length <= (irows .u32 o).length by rw [irows_len]; omega) ?_
  refine Exists.intro _ (And.intro hts ?_)
  refine And.intro (Or.inr rfl) ?_
  show AV.tup [_,AV.int .u32 (u32 r)] = _
  rw [u32_in (by omega),<- hq.2]
end Ab
end
section
open Go Go.Proofs
namespace Ab
set_option maxRecDepth 100000
set_option maxHeartbeats 1000000
theorem rfit_walk (gl : List (Nat × AV)) (neg : Bool) {l t : List Int} (hts : Spec Tryz.prog gl 146 [lim l] (lim t)) (ht : t.length <= 128) :
  Spec Tryz.prog gl 170 [.bool neg,lim l] (.tup [mkI (bif neg then decide (0 < t.length) else false) t,.int .i64 0]):=by
 have ll : (irows .u32 t).length = t.length:=irows_len _ _
 cases neg <;>
 ·refine spec_fn T_ok mixed_ok 0 Tryz.func170 fn_ok170 (by kernel_rfl) ?_
  first | refine Exists.intro _ (And.intro (hts) ?_) | refine Hn_by (Exists.intro _ (And.intro (hts) ?_))
  refine br (fun h => ?_) (fun _ => ?_)
  ·have : ((irows .u32 t).length : Int) > 128:=h
   omega
  repeat (first | refine gT ?_ | refine gF ?_ | refine brT ?_ | refine brF ?_)
  refine And.intro rfl ?_
  refine And.intro (irows_ok _ _) ?_
  refine And.intro (show (0 + (irows .u32 t).length) * 4 <= 140737488355328 by omega) ?_
  refine And.intro (show 0 + (irows .u32 t).length <= maxLen by simp only [maxLen]; omega) ?_
  refine And.intro (Or.inr rfl) ?_
  refine And.intro (by simp) ?_
  first
  | refine congrArg (fun x => AV.tup [AV.agg [AV.bool false,AV.sl x],AV.int .i64 0]) (?_ : _ = irows .u32 t)
    simp
    done
  | show AV.tup [AV.agg [AV.bool (decide (((irows .u32 t).length : Int) > 0)),AV.sl _],AV.int .i64 0] = _
    rw [show decide (((irows .u32 t).length : Int) > 0) = decide (0 < t.length) by rw [irows_len]; simp]
    refine congrArg (fun x => AV.tup [AV.agg [AV.bool (decide (0 < t.length)),AV.sl x],AV.int .i64 0]) (?_ : _ = irows .u32 t)
    simp
end Ab
end
section
open Go Go.Proofs
namespace Ab
set_option maxRecDepth 100000
set_option maxHeartbeats 1000000
theorem rdivide_walk (gl : List (Nat × AV)) {a q t : List Int} {d r : Int} (s : Spec Tryz.prog gl 184 [lim a,.int .u32 d] (.tup [lim q,.int .u32 r])) (s2 : Spec Tryz.prog gl 146 [lim [r]] (lim t)) :
  Spec Tryz.prog gl 181 [lim a,lim [d]] (.tup [lim q,lim t]):=by
 refine spec_fn T_ok mixed_ok 0 Tryz.func181 fn_ok181 (by kernel_rfl) ?_
 repeat (first | refine gT ?_ | refine gF ?_ | refine brT ?_ | refine brF ?_)
 refine And.intro (by decide) (Exists.intro _ (And.intro rfl ?_))
 first | refine Exists.intro _ (And.intro (s) ?_) | refine Hn_by (Exists.intro _ (And.intro (s) ?_))
 refine And.intro (Nat.le_refl 1) (Exists.intro _ (And.intro s2 ?_))
 exact And.intro (Or.inr rfl) rfl
theorem rdivmod_walk (gl : List (Nat × AV)) {an xn : Bool} {al bl q xl : List Int} (v1 : Spec Tryz.prog gl 143 [mkI an al] (.bool true)) (v2 : Spec Tryz.prog gl 143 [mkI false bl] (.bool true)) (hb : ¬ ((irows .u32 bl).length : Int) = 0)
  (s : Spec Tryz.prog gl 181 [lim al,lim bl] (.tup [lim q,lim []])) (f1 : Spec Tryz.prog gl 170 [.bool an,lim q] (.tup [mkI xn xl,.int .i64 0])) (f2 : Spec Tryz.prog gl 170 [.bool false,lim []] (.tup [mkI false [],.int .i64 0])) :
  Spec Tryz.prog gl 164 [mkI an al,mkI false bl] (.tup [mkI xn xl,mkI false [],.int .i64 0]):=by
 cases an <;>
 ·refine spec_fn T_ok mixed_ok 0 Tryz.func164 fn_ok164 (by kernel_rfl) ?_
  first | refine Exists.intro _ (And.intro (v1) ?_) | refine Hn_by (Exists.intro _ (And.intro (v1) ?_))
  repeat (first | refine gT ?_ | refine gF ?_ | refine brT ?_ | refine brF ?_)
  first | refine Exists.intro _ (And.intro (v2) ?_) | refine Hn_by (Exists.intro _ (And.intro (v2) ?_))
  repeat (first | refine gT ?_ | refine gF ?_ | refine brT ?_ | refine brF ?_)
  refine brE (fun g => absurd g hb) (fun _ => ?_)
  first | refine Exists.intro _ (And.intro (s) ?_) | refine Hn_by (Exists.intro _ (And.intro (s) ?_))
  repeat (first | refine gT ?_ | refine gF ?_ | refine brT ?_ | refine brF ?_)
  first | refine Exists.intro _ (And.intro (f1) ?_) | refine Hn_by (Exists.intro _ (And.intro (f1) ?_))
  repeat (first | refine gT ?_ | refine gF ?_ | refine brT ?_ | refine brF ?_)
  first | refine Exists.intro _ (And.intro (f2) ?_) | refine Hn_by (Exists.intro _ (And.intro (f2) ?_))
  refine And.intro (by kernel_rfl) ?_
  repeat (first | refine gT ?_ | refine gF ?_ | refine brT ?_ | refine brF ?_ | refine And.intro rfl ?_)
  exact And.intro (Or.inr rfl) rfl
end Ab
end
section
open Go Go.Proofs
namespace Ab
set_option maxRecDepth 100000
set_option maxHeartbeats 1000000
theorem rzero_spec (gl : List (Nat × AV)) (neg : Bool) (l : List Int) : Spec Tryz.prog gl 144 [mkI neg l] (.bool (decide (l = []))):=by
 refine spec_fn T_ok mixed_ok 0 Tryz.func144 fn_ok144 (by kernel_rfl) ?_
 exact And.intro (Or.inr rfl) (congrArg AV.bool (zero_ans l))
theorem lowest_walk (gl : List (Nat × AV)) {nn n2 : Bool} {nl dl g nl2 dl2 : List Int} (s : Spec Tryz.prog gl 153 [mkI nn nl,mkI false dl] (.tup [mkI false g,.int .i64 0])) (d1 : Spec Tryz.prog gl 164 [mkI nn nl,mkI false g] (.tup [mkI n2 nl2,mkI false [],.int .i64 0]))
  (d2 : Spec Tryz.prog gl 164 [mkI false dl,mkI false g] (.tup [mkI false dl2,mkI false [],.int .i64 0])) : Spec Tryz.prog gl 145 [mkI nn nl,mkI false dl] (mkQ n2 nl2 false dl2):=by
 refine spec_fn T_ok mixed_ok 0 Tryz.func145 fn_ok145 (by kernel_rfl) ?_
 first | refine Exists.intro _ (And.intro (s) ?_) | refine Hn_by (Exists.intro _ (And.intro (s) ?_))
 repeat (first | refine gT ?_ | refine gF ?_ | refine brT ?_ | refine brF ?_)
 first | refine Exists.intro _ (And.intro (d1) ?_) | refine Hn_by (Exists.intro _ (And.intro (d1) ?_))
 first | refine Exists.intro _ (And.intro (d2) ?_) | refine Hn_by (Exists.intro _ (And.intro (d2) ?_))
 exact And.intro (Or.inr rfl) rfl
theorem rmake_walk (gl : List (Nat × AV)) {nn n2 d2 : Bool} {nl dl nl2 dl2 : List Int} (v1 : Spec Tryz.prog gl 143 [mkI nn nl] (.bool true)) (v2 : Spec Tryz.prog gl 143 [mkI false dl] (.bool true)) (z : Spec Tryz.prog gl 144 [mkI false dl] (.bool false))
  (lo : Spec Tryz.prog gl 145 [mkI nn nl,mkI false dl] (mkQ n2 nl2 d2 dl2)) : Spec Tryz.prog gl 106 [mkI nn nl,mkI false dl] (.tup [mkQ n2 nl2 d2 dl2,.int .i64 0]):=by
 refine spec_fn T_ok mixed_ok 0 Tryz.func106 fn_ok106 (by kernel_rfl) ?_
 first | refine Exists.intro _ (And.intro (v1) ?_) | refine Hn_by (Exists.intro _ (And.intro (v1) ?_))
 first | refine Exists.intro _ (And.intro (v2) ?_) | refine Hn_by (Exists.intro _ (And.intro (v2) ?_))
 repeat (first | refine gT ?_ | refine gF ?_ | refine brT ?_ | refine brF ?_)
 first | refine Exists.intro _ (And.intro (z) ?_) | refine Hn_by (Exists.intro _ (And.intro (z) ?_))
 repeat (first | refine gT ?_ | refine gF ?_ | refine brT ?_ | refine brF ?_)
 first | refine Exists.intro _ (And.intro (lo) ?_) | refine Hn_by (Exists.intro _ (And.intro (lo) ?_))
 exact And.intro (Or.inr rfl) rfl
theorem rof_walk (gl : List (Nat × AV)) {n d : Int} {nn n2 d2 : Bool} {nl dl nl2 dl2 : List Int} (o1 : Spec Tryz.prog gl 107 [.int .i64 n] (mkI nn nl)) (o2 : Spec Tryz.prog gl 107 [.int .i64 d] (mkI false dl)) (m : Spec Tryz.prog gl 106 [mkI nn nl,mkI false dl] (.tup [mkQ n2 nl2 d2 dl2,.int .i64 0])) :
  Spec Tryz.prog gl 48 [.int .i64 n,.int .i64 d] (.tup [mkQ n2 nl2 d2 dl2,.int .i64 0]):=by
 refine spec_fn T_ok mixed_ok 0 Tryz.func48 fn_ok48 (by kernel_rfl) ?_
 first | refine Exists.intro _ (And.intro (o1) ?_) | refine Hn_by (Exists.intro _ (And.intro (o1) ?_))
 first | refine Exists.intro _ (And.intro (o2) ?_) | refine Hn_by (Exists.intro _ (And.intro (o2) ?_))
 first | refine Exists.intro _ (And.intro (m) ?_) | refine Hn_by (Exists.intro _ (And.intro (m) ?_))
 exact And.intro (Or.inr rfl) rfl
end Ab
end
section
open Go Go.Proofs
namespace Ab
set_option maxRecDepth 100000
set_option maxHeartbeats 1000000
theorem mag_limb {g : Int} (h0 : 0 < g) (h1 : g < 4294967296) : Dg.mag g = [g]:=by
 have h : Dg.D [g]:=Dg.D.cons.2 ⟨by simp only [Dg.B]; omega,Dg.D.nil⟩
 have:=Dg.mag_of h (fun x hx => by
  have : x = g:=by simpa using hx.symm
  omega)
 rw [this]
 congr 1
 simp [Dg.val]
theorem rfit_int (gl : List (Nat × AV)) {neg : Bool} {x z : Int} (hx : 0 <= x) (hz : sg neg x = z) (hf : Fits z) : Spec Tryz.prog gl 170 [.bool neg,lim (Dg.mag x)] (.tup [mkZ z,.int .i64 0]):=by
 have e : az z = x:=by rw [<- hz]; unfold sg az; split <;> omega
 have hl : (Dg.mag x).length <= 128:=by rw [<- e]; exact hf
 have s:=rtrim_spec gl (Dg.mag x) (by omega)
 rw [Dg.trim_mag (Dg.magD x),Dg.magV hx] at s
 have f:=rfit_walk gl neg s hl
 unfold mkZ
 rw [e]
 have hs : (bif neg then decide (0 < (Dg.mag x).length) else false) = decide (z < 0):=by
  rw [<- hz]
  cases neg with
  | false => simp [sg]; omega
  | true =>
   have : 0 < (Dg.mag x).length ↔ 0 < x:=by
    rw [List.length_pos_iff,Ne,mag_nil hx]; omega
   simp [sg,this]
 rw [hs] at f
 exact f
theorem rdivmod_int (gl : List (Nat × AV)) {a g : Int} (ha : Fits a) (g0 : 0 < g) (g1 : g < 4294967296) (hd : g ∣ a) : Spec Tryz.prog gl 164 [mkZ a,mkZ g] (.tup [mkZ (a / g),mkI false [],.int .i64 0]):=by
 have fg : Fits g:=fits_i64 (by omega) (by omega)
 have v1:=rvalid_int gl ha
 have v2:=rvalid_int gl fg
 rw [mkZ_nn (a:=g) (by omega),mag_limb g0 g1] at v2 ⊢
 have sh:=short_spec gl (Dg.magD (az a)) (d:=g) ⟨g0,g1⟩ (Nat.le_trans ha (by decide))
 rw [val_az] at sh
 have hm : az a % g = 0:=by
  obtain ⟨k,rfl⟩:=hd
  rw [<- abs_mul,show az g = g by unfold az; omega]
  exact Int.mul_emod_right _ _
 rw [hm] at sh
 have q0:=Int.ediv_nonneg (az_nn a) (Int.le_of_lt g0)
 have t0:=rtrim_spec gl [0] (by simp)
 have dv:=rdivide_walk gl sh t0
 have hq : sg (decide (a < 0)) (az a / g) = a / g:=by
  obtain ⟨k,rfl⟩:=hd
  rw [<- abs_mul,show az g = g by unfold az; omega,Int.mul_ediv_cancel_left _ (by omega),Int.mul_ediv_cancel_left _ (by omega)]
  have hs : decide (g * k < 0) = decide (k < 0):=by
   rw [decide_eq_decide]
   constructor
   ·intro h
    refine Int.not_le.1 fun e => ?_
    have:=Int.mul_nonneg (Int.le_of_lt g0) e
    omega
   ·intro h
    have:=Int.mul_neg_of_pos_of_neg g0 h
    omega
  rw [hs]
  exact sg_az k
 have f1:=rfit_int gl q0 hq (quo_fits g0 ha)
 have f2:=rfit_int gl (neg:=false) (x:=0) (z:=0) (Int.le_refl 0) rfl (fits_i64 (by decide) (by decide))
 have z0 : mkZ 0 = mkI false []:=by
  unfold mkZ
  rw [show Dg.mag (az 0) = [] from (mag_nil (az_nn 0)).2 rfl]
  rfl
 rw [z0,show Dg.mag 0 = [] from Dg.mag_zero (Int.le_refl 0)] at f2
 exact rdivmod_walk gl v1 v2 (by rw [irows_len]; simp only [List.length_cons,List.length_nil]; omega) dv f1 f2
end Ab
end
section
open Go Go.Proofs
namespace Ab
set_option maxRecDepth 100000
set_option maxHeartbeats 1000000
theorem any_val : ∀ {l : List Int},Dg.D l -> l.any (fun x => x != 0) = decide (Dg.val l ≠ 0)
 | [],_ => by simp [Dg.val]
 | x :: l,h => by
  obtain ⟨hx,hl⟩:=Dg.D.cons.1 h
  have ih:=any_val hl
  have v:=Dg.val_nonneg hl
  have e : Dg.val (x :: l) = x + 4294967296 * Dg.val l:=rfl
  simp only [Dg.B] at hx
  rw [List.any_cons,ih,e,Bool.eq_iff_iff,Bool.or_eq_true,bne_iff_ne,decide_eq_true_iff,decide_eq_true_iff]
  generalize Dg.val l = v at *
  constructor
  ·rintro (g | g) <;> omega
  ·intro g
   by_cases h0 : x = 0
   ·right; omega
   ·exact .inl h0
def lostF (l : List Int) (k : Nat) : Bool:=(l.take k).any (fun x => x != 0)
theorem lost_step {l : List Int} {k : Nat} (h : k < l.length) : lostF l (k + 1) = (lostF l k || (l.getD k 0 != 0)):=by
 unfold lostF
 rw [List.take_add_one,getD_some h,List.any_append]
 simp
theorem mask64 {x r : Nat} (hx : x < 4294967296) (hr : r < 32) : Go.bits .and .u64 (u64 (x : Int)) (u64 (u64 (1 * 2 ^ r) - 1)) = ((x % 2 ^ r : Nat) : Int):=by
 have p : 2 ^ r <= 2 ^ 31:=Nat.pow_le_pow_right (by decide) (by omega)
 have p0 : 0 < 2 ^ r:=Nat.pow_pos (by decide)
 have e1 : (1 : Int) * 2 ^ r = ((2 ^ r : Nat) : Int):=by rw [pow_cast]; omega
 rw [e1,u64_in (n:=((2 ^ r : Nat) : Int)) (by omega),show ((2 ^ r : Nat) : Int) - 1 = ((2 ^ r - 1 : Nat) : Int) by omega,u64_in (n:=((2 ^ r - 1 : Nat) : Int)) (by omega),u64_in (by omega),u64_and_nat _ _ (by omega) (by omega),Nat.and_two_pow_sub_one_eq_mod]
theorem rright_nil (gl : List (Nat × AV)) {l : List Int} (hl : Dg.D l) (hc : Dg.Canon l) (hla : l.length <= 1048576) {n : Nat} (hn : n <= 1048576) (h : l.length <= n / 32) :
  Spec Tryz.prog gl 183 [lim l,.int .i64 (n : Int)] (.tup [lim (Dg.mag (Dg.val l / 2 ^ n)),.bool (decide (Dg.val l % 2 ^ n ≠ 0))]):=by
 have la : ((irows .u32 l).length : Int) = l.length:=by rw [irows_len]
 have hW : w64 (Int.tdiv (n : Int) 32) = ((n / 32 : Nat) : Int):=by
  rcases tdiv32 n with h | h
  ·exact h
  ·omega
 have v0:=Dg.val_nonneg hl
 have v1 : Dg.val l < 2 ^ n:=by
  have a:=Dg.val_lt hl
  have b : Dg.B ^ l.length <= 2 ^ n:=by rw [pow_B]; exact two_pow_le (by omega)
  omega
 rw [Int.ediv_eq_zero_of_lt v0 v1,Int.emod_eq_of_lt v0 v1,Dg.mag_zero (Int.le_refl 0)]
 have e : decide (Dg.val l ≠ 0) = decide (((irows .u32 l).length : Int) > 0):=by
  rw [la]
  refine decide_eq_decide.2 ⟨fun g => ?_,fun g => ?_⟩
  ·cases l with
   | nil => exact absurd rfl g
   | cons x l => simp
  ·have : l ≠ []:=fun e => by subst e; simp at g
   have:=Dg.val_pos hl hc this
   omega
 rw [e]
 refine spec_fn T_ok mixed_ok 0 Tryz.func183 fn_ok183 (by kernel_rfl) ?_
 refine And.intro (by decide) ?_
 refine br (fun _ => ?_) (fun g => ?_)
 ·exact And.intro (Or.inr rfl) rfl
 ·have g' : ¬ w64 (Int.tdiv (n : Int) 32) ≥ ((irows .u32 l).length : Int):=g
  omega
theorem rright_spec (gl : List (Nat × AV)) {l : List Int} (hl : Dg.D l) (hc : Dg.Canon l) (hla : l.length <= 1048576) {n : Nat} (hn : n <= 1048576) :
  Spec Tryz.prog gl 183 [lim l,.int .i64 (n : Int)] (.tup [lim (Dg.mag (Dg.val l / 2 ^ n)),.bool (decide (Dg.val l % 2 ^ n ≠ 0))]):=by
 by_cases hlen : l.length <= n / 32
 ·exact rright_nil gl hl hc hla hn hlen
 have la : ((irows .u32 l).length : Int) = l.length:=by rw [irows_len]
 have hW : w64 (Int.tdiv (n : Int) 32) = ((n / 32 : Nat) : Int):=by
  rcases tdiv32 n with h | h
  ·exact h
  ·omega
 have hR : Int.tmod (n : Int) 32 = ((n % 32 : Nat) : Int):=by rw [Int.ofNat_tmod]; rfl
 obtain ⟨w,hw⟩ : ∃ w,w = n / 32:=⟨_,rfl⟩
 obtain ⟨r,hr⟩ : ∃ r,r = n % 32:=⟨_,rfl⟩
 have hnw : n = 32 * w + r:=by omega
 have hr32 : r < 32:=by omega
 rw [<- hw] at hW hlen
 rw [<- hr] at hR
 have p : (0 : Int) < 2 ^ r:=Int.pow_pos (by decide)
 have e2n : (2 : Int) ^ n = Dg.B ^ w * 2 ^ r:=by rw [hnw,Int.pow_add,Int.pow_mul]; rfl
 have hsplit:=Dg.take_drop_val l w (by omega)
 have htk:=Dg.val_take_lt hl w
 have pw:=Dg.pow_pos w
 have hdiv : Dg.val l / 2 ^ n = shrV l r w:=by
  unfold shrV
  rw [e2n,<- Int.ediv_ediv_of_nonneg (Int.le_of_lt pw),hsplit,Int.add_mul_ediv_left _ _ (by omega),Int.ediv_eq_zero_of_lt htk.1 htk.2,Int.zero_add]
 rw [hdiv]
 have lx:=Dg.getD_bd hl w
 obtain ⟨x,hx⟩:=Int.eq_ofNat_of_zero_le lx.1
 have hx32 : x < 4294967296:=by simp only [Dg.B] at lx; omega
 have hlost : decide (Dg.val l % 2 ^ n ≠ 0) = (lostF l w || ((x % 2 ^ r : Nat) : Int) != 0):=by
  have hv : Dg.val l % 2 ^ n = Dg.val (l.take w) + Dg.B ^ w * ((x % 2 ^ r : Nat) : Int):=by
   rw [e2n,hsplit,Dg.drop_split (by omega),hx]
   have hh:=htk
   rw [<- hsplit] at *
   exact lost_val hr32 hh
  unfold lostF
  rw [any_val (hl.take w),hv,Bool.eq_iff_iff]
  simp only [ne_eq,decide_eq_true_eq,Bool.or_eq_true,bne_iff_ne]
  have m0 : (0 : Int) <= ((x % 2 ^ r : Nat) : Int):=Int.natCast_nonneg _
  generalize ((x % 2 ^ r : Nat) : Int) = m at *
  have:=Int.mul_nonneg (Int.le_of_lt pw) m0
  constructor
  ·intro g
   by_cases hm : m = 0
   ·left
    intro e
    exact g (by rw [e,hm]; simp)
   ·exact .inr hm
  ·rintro (g | g) e
   ·omega
   ·have : Dg.B ^ w * 1 <= Dg.B ^ w * m:=Int.mul_le_mul_of_nonneg_left (by omega) (Int.le_of_lt pw)
    omega
 rw [hlost]
 clear hlost hdiv hsplit htk
 have ix : (irows .u32 l)[(w64 (Int.tdiv (n : Int) 32)).toNat]? = some [.int .u32 (l.getD w 0)]:=irows_at (by rw [hW,Int.toNat_natCast]; exact getD_some (by omega))
 have iW : 0 <= w64 (Int.tdiv (n : Int) 32):=by omega
 have R0 : 0 <= Int.tmod (n : Int) 32:=by rw [hR]; omega
 have hand : Go.bits .and .u64 (u64 (l.getD w 0)) (u64 (u64 (1 * 2 ^ (min (Int.tmod (n : Int) 32).toNat IntKind.u64.bits)) - 1)) = ((x % 2 ^ r : Nat) : Int):=by
  rw [hR,Int.toNat_natCast,Nat.min_eq_left (show r <= IntKind.u64.bits from Nat.le_of_lt (Nat.lt_of_lt_of_le hr32 (by decide))),hx]
  exact mask64 hx32 hr32
 have hge : ¬ w64 (Int.tdiv (n : Int) 32) ≥ ((irows .u32 l).length : Int):=by omega
 have hM : w64 (((irows .u32 l).length : Int) - w64 (Int.tdiv (n : Int) 32)) = ((l.length - w : Nat) : Int):=by rw [la,hW,w64_eq (by omega)]; omega
 refine spec_fn T_ok mixed_ok 0 Tryz.func183 fn_ok183 (by kernel_rfl) ?_
 refine And.intro (by decide) ?_
 refine br (fun g => absurd g hge) (fun _ => ?_)
 refine aw_loop (fun q : Nat × Bool => stOf [(0,lim l),(1,.int .i64 (n : Int)),(6,.bool q.2),(7,.int .i64 (q.1 : Int))] [] 0) (fun q => q.1 <= w∧q.2 = lostF l q.1) (fun q => w - q.1) (0,false) ⟨Nat.zero_le _,rfl⟩
  (le_by ⟨rfl,rfl,rfl,rfl,trivial⟩ trivial (Nat.le_refl _)) ?_
 rintro ⟨k,b⟩ ⟨hk,hb⟩ P hP
 simp only at hk hb
 refine And.intro (by decide) ?_
 refine br (fun h2 => ?_) (fun h2 => ?_)
 ·have hkw : k < w:=by have : (k : Int) < w64 (Int.tdiv (n : Int) 32):=h2; omega
  have iy : (irows .u32 l)[((k : Int)).toNat]? = some [.int .u32 (l.getD k 0)]:=irows_at (getD_some (by omega))
  have hw2 : w64 ((k : Int) + 1) = ((k + 1 : Nat) : Int):=by rw [w64_eq (by omega)]; omega
  have hs:=lost_step (l:=l) (k:=k) (by omega)
  cases b with
  | true =>
   repeat (first | refine gT ?_ | refine gF ?_ | refine brT ?_ | refine brF ?_)
   exact hP (k + 1,true) _ (le_by ⟨rfl,rfl,rfl,int_eq hw2,trivial⟩ trivial (Nat.le_refl _)) ⟨hkw,by rw [hs,<- hb]; rfl⟩ (by show w - (k + 1) < w - k; omega)
  | false =>
   repeat (first | refine gT ?_ | refine gF ?_ | refine brT ?_ | refine brF ?_)
   refine And.intro (show (0 : Int) <= (k : Int) by omega) (Exists.intro _ (And.intro iy ?_))
   repeat (first | refine gT ?_ | refine gF ?_ | refine brT ?_ | refine brF ?_)
   exact hP (k + 1,l.getD k 0 != 0) _ (le_by ⟨rfl,rfl,rfl,int_eq hw2,trivial⟩ trivial (Nat.le_refl _)) ⟨hkw,by rw [hs,<- hb]; rfl⟩ (by show w - (k + 1) < w - k; omega)
 ·obtain rfl : w = k:=by have : ¬ (k : Int) < w64 (Int.tdiv (n : Int) 32):=h2; omega
  clear hP
  rw [<- hb]
  clear hb
  refine And.intro (by decide) ?_
  refine And.intro (show (0 : Int) <= w64 (((irows .u32 l).length : Int) - w64 (Int.tdiv (n : Int) 32)) by rw [hM]; omega) (And.intro (Int.le_refl _) (And.intro (show w64 (((irows .u32 l).length : Int) - w64 (Int.tdiv (n : Int) 32)) * 4 <= 140737488355328 by rw [hM]; omega) (And.intro (show w64 (((irows .u32 l).length : Int) - w64 (Int.tdiv (n : Int) 32)) <= maxLen by rw [hM]; simp [maxLen]; omega) ?_)))
  refine aw_loop (fun q : Nat × List Int => stOf [(0,lim l),(1,.int .i64 (n : Int)),(6,.bool b),(8,.ms 0 0 (l.length - w)),(9,.int .i64 (q.1 : Int))] [(0,.arr (60,1) (irows .u32 q.2) true)] 1)
   (fun q => q.1 <= l.length - w∧Dg.D q.2∧q.2.length = l.length - w∧Dg.val (q.2.take q.1) + Dg.B ^ q.1 * shrV l r (w + q.1) = shrV l r w) (fun q => l.length - w - q.1) (0,List.replicate (l.length - w) 0)
   ⟨Nat.zero_le _,Dg.D.rep _,by simp,by simp [Dg.val]⟩
   (le_by ⟨rfl,rfl,rfl,(show AV.ms 0 0 (w64 (((irows .u32 l).length : Int) - w64 (Int.tdiv (n : Int) 32))).toNat = _ by rw [hM,Int.toNat_natCast]),rfl,trivial⟩ ⟨(show some (Blk.arr (60,1) (List.replicate (w64 (((irows .u32 l).length : Int) - w64 (Int.tdiv (n : Int) 32))).toNat [AV.int .u32 0]) true) = _ by rw [hM,Int.toNat_natCast,irows_rep]),trivial⟩ (Nat.le_refl _)) ?_
  rintro ⟨i,o⟩ ⟨hi,ho,hol,hv⟩ P hP
  simp only at hi ho hol hv
  refine br (fun h2 => ?_) (fun h2 => ?_)
  ·have hin : i < l.length - w:=by have : (i : Int) < ((l.length - w : Nat) : Int):=h2; omega
   have lk:=Dg.getD_bd hl (w + i)
   have lk1:=Dg.getD_bd hl (w + i + 1)
   have kI : w64 ((i : Int) + w64 (Int.tdiv (n : Int) 32)) = ((w + i : Nat) : Int):=by rw [hW,w64_eq (by omega)]; omega
   have kI1 : w64 (w64 ((i : Int) + w64 (Int.tdiv (n : Int) 32)) + 1) = ((w + i + 1 : Nat) : Int):=by rw [kI,w64_eq (by omega)]; omega
   have i0 : 0 <= w64 ((i : Int) + w64 (Int.tdiv (n : Int) 32)):=by omega
   have i1 : 0 <= w64 (w64 ((i : Int) + w64 (Int.tdiv (n : Int) 32)) + 1):=by omega
   have il : (irows .u32 l)[(w64 ((i : Int) + w64 (Int.tdiv (n : Int) 32))).toNat]? = some [.int .u32 (l.getD (w + i) 0)]:=irows_at (by rw [kI,Int.toNat_natCast]; exact getD_some (by omega))
   have io : (irows .u32 o)[0 + ((i : Int)).toNat]? = some [.int .u32 (o.getD i 0)]:=irows_at (by rw [Nat.zero_add]; exact getD_some (by simp; omega))
   have hw2 : w64 ((i : Int) + 1) = ((i + 1 : Nat) : Int):=by rw [w64_eq (by omega)]; omega
   have hstep:=shrV_step hl (k:=w + i) (by omega) hr32
   have T0 : 0 <= l.getD (w + i) 0 + Dg.B * l.getD (w + i + 1) 0:=by simp only [Dg.B] at *; omega
   have eL : ∀ {X : Int},X = l.getD (w + i) 0 + Dg.B * l.getD (w + i + 1) 0 -> u32 (Int.fdiv X (2 ^ (min (Int.tmod (n : Int) 32).toNat IntKind.u64.bits))) = ((l.getD (w + i) 0 + Dg.B * l.getD (w + i + 1) 0) / 2 ^ r) % Dg.B:=by
    intro X hX
    rw [hX,hR,Int.toNat_natCast,Nat.min_eq_left (show r <= IntKind.u64.bits from Nat.le_of_lt (Nat.lt_of_lt_of_le hr32 (by decide))),Int.fdiv_eq_ediv_of_nonneg _ (Int.le_of_lt p),u32_eq]
   refine And.intro (by decide) ?_
   refine And.intro i0 (Exists.intro _ (And.intro il ?_))
   refine And.intro (by decide) ?_
   refine br (fun h3 => ?_) (fun h3 => ?_)
   ·have h3' : w + i + 1 < l.length:=by
     have : w64 (w64 ((i : Int) + w64 (Int.tdiv (n : Int) 32)) + 1) < ((irows .u32 l).length : Int):=h3
     omega
    have il1 : (irows .u32 l)[(w64 (w64 ((i : Int) + w64 (Int.tdiv (n : Int) 32)) + 1)).toNat]? = some [.int .u32 (l.getD (w + i + 1) 0)]:=irows_at (by rw [kI1,Int.toNat_natCast]; exact getD_some h3')
    have eT : u64 (u64 (l.getD (w + i) 0) + u64 (u64 (l.getD (w + i + 1) 0) * 4294967296)) = l.getD (w + i) 0 + Dg.B * l.getD (w + i + 1) 0:=by
     simp only [Dg.B] at *
     rw [u64_in (n:=l.getD (w + i) 0) (by omega),u64_in (n:=l.getD (w + i + 1) 0) (by omega),u64_in (n:=l.getD (w + i + 1) 0 * 4294967296) (by omega),u64_in (by omega)]
     omega
    have e3:=eL eT
    refine And.intro (by decide) ?_
    refine And.intro i1 (Exists.intro _ (And.intro il1 ?_))
    refine And.intro (by decide) ?_
    refine And.intro R0 ?_
    refine And.intro (show (0 : Int) <= (i : Int) by omega) (And.intro (show (i : Int) < ((l.length - w : Nat) : Int) by omega) (Exists.intro _ (And.intro io ?_)))
    refine hP (i + 1,o.set i (((l.getD (w + i) 0 + Dg.B * l.getD (w + i + 1) 0) / 2 ^ r) % Dg.B)) _ (le_by ⟨rfl,rfl,rfl,rfl,int_eq hw2,trivial⟩ ⟨(show some (Blk.arr (60,1) ((irows .u32 o).set (0 + ((i : Int)).toNat) [.int .u32 (u32 (Int.fdiv (u64 (u64 (l.getD (w + i) 0) + u64 (u64 (l.getD (w + i + 1) 0) * 4294967296))) (2 ^ (min (Int.tmod (n : Int) 32).toNat IntKind.u64.bits))))]) true) = _ by rw [e3,Nat.zero_add,Int.toNat_natCast,irows_set]),trivial⟩ (Nat.le_refl _))
     ⟨by show i + 1 <= l.length - w; omega,ho.set (Int.emod_nonneg _ (by decide)) (Int.emod_lt_of_pos _ (by decide)),by simp [hol],?_⟩ (by show l.length - w - (i + 1) < l.length - w - i; omega)
    show Dg.val ((o.set i _).take (i + 1)) + Dg.B ^ (i + 1) * shrV l r (w + (i + 1)) = shrV l r w
    rw [Dg.set_take _ _ _ (by omega),<- hv,hstep,Int.pow_succ,show w + (i + 1) = w + i + 1 by omega]
    grind
   ·have h3' : ¬ w + i + 1 < l.length:=by
     have : ¬ w64 (w64 ((i : Int) + w64 (Int.tdiv (n : Int) 32)) + 1) < ((irows .u32 l).length : Int):=h3
     omega
    have z : l.getD (w + i + 1) 0 = 0:=by rw [List.getD_eq_getElem?_getD,List.getElem?_eq_none (by omega)]; rfl
    have eT : u64 (l.getD (w + i) 0) = l.getD (w + i) 0 + Dg.B * l.getD (w + i + 1) 0:=by
     rw [z,u64_in (by simp only [Dg.B] at lk; omega)]; simp
    have e3:=eL eT
    refine And.intro (by decide) ?_
    refine And.intro R0 ?_
    refine And.intro (show (0 : Int) <= (i : Int) by omega) (And.intro (show (i : Int) < ((l.length - w : Nat) : Int) by omega) (Exists.intro _ (And.intro io ?_)))
    refine hP (i + 1,o.set i (((l.getD (w + i) 0 + Dg.B * l.getD (w + i + 1) 0) / 2 ^ r) % Dg.B)) _ (le_by ⟨rfl,rfl,rfl,rfl,int_eq hw2,trivial⟩ ⟨(show some (Blk.arr (60,1) ((irows .u32 o).set (0 + ((i : Int)).toNat) [.int .u32 (u32 (Int.fdiv (u64 (l.getD (w + i) 0)) (2 ^ (min (Int.tmod (n : Int) 32).toNat IntKind.u64.bits))))]) true) = _ by rw [e3,Nat.zero_add,Int.toNat_natCast,irows_set]),trivial⟩ (Nat.le_refl _))
     ⟨by show i + 1 <= l.length - w; omega,ho.set (Int.emod_nonneg _ (by decide)) (Int.emod_lt_of_pos _ (by decide)),by simp [hol],?_⟩ (by show l.length - w - (i + 1) < l.length - w - i; omega)
    show Dg.val ((o.set i _).take (i + 1)) + Dg.B ^ (i + 1) * shrV l r (w + (i + 1)) = shrV l r w
    rw [Dg.set_take _ _ _ (by omega),<- hv,hstep,Int.pow_succ,show w + (i + 1) = w + i + 1 by omega]
    grind
  ·have hin : i = l.length - w:=by have : ¬ (i : Int) < ((l.length - w : Nat) : Int):=h2; omega
   subst hin
   clear hP
   rw [List.take_of_length_le (Nat.le_of_eq hol)] at hv
   have z : shrV l r (w + (l.length - w)) = 0:=by
    unfold shrV
    rw [List.drop_eq_nil_of_le (by omega)]
    simp [Dg.val]
   rw [z,Int.mul_zero,Int.add_zero] at hv
   rw [<- hv]
   have hts2:=rtrim_spec gl o (by omega)
   rw [Dg.trim_mag ho] at hts2
   have e6 : ((irows .u32 o).drop 0).take (l.length - w) = irows .u32 o:=by
    rw [List.drop_zero,List.take_of_length_le (by rw [irows_len]; omega)]
   rw [show lim o = AV.sl (irows .u32 o) from rfl,<- e6] at hts2
   cases b with
   | true =>
    refine And.intro (by decide) ?_
    refine And.intro R0 ?_
    refine And.intro (by kernel_rfl) ?_
    repeat (first | refine gT ?_ | refine gF ?_ | refine brT ?_ | refine brF ?_ | refine And.intro rfl ?_)
    refine And.intro (show 0 + (l.length - w) <= (irows .u32 o).length by rw [irows_len]; omega) ?_
    refine Exists.intro _ (And.intro hts2 ?_)
    repeat (first | refine gT ?_ | refine gF ?_ | refine brT ?_ | refine brF ?_)
    exact And.intro (Or.inr rfl) rfl
   | false =>
    refine And.intro (by decide) ?_
    refine And.intro R0 ?_
    refine And.intro (by kernel_rfl) ?_
    repeat (first | refine gT ?_ | refine gF ?_ | refine brT ?_ | refine brF ?_ | refine And.intro rfl ?_)
    refine And.intro (show 0 + (l.length - w) <= (irows .u32 o).length by rw [irows_len]; omega) ?_
    refine Exists.intro _ (And.intro hts2 ?_)
    repeat (first | refine gT ?_ | refine gF ?_ | refine brT ?_ | refine brF ?_)
    refine And.intro (by decide) ?_
    repeat (first | refine gT ?_ | refine gF ?_ | refine brT ?_ | refine brF ?_)
    refine And.intro iW (Exists.intro _ (And.intro ix ?_))
    repeat (first | refine gT ?_ | refine gF ?_ | refine brT ?_ | refine brF ?_)
    refine And.intro (Or.inr rfl) ?_
    show AV.tup [_,AV.bool (Go.bits .and .u64 (u64 (l.getD w 0)) (u64 (u64 (1 * 2 ^ (min (Int.tmod (n : Int) 32).toNat IntKind.u64.bits)) - 1)) != 0)] = _
    rw [hand]
    rfl
end Ab
end
section
open Go Go.Proofs
namespace Ab
set_option maxRecDepth 100000
set_option maxHeartbeats 1000000
theorem rleft_spec (gl : List (Nat × AV)) {l : List Int} (hl : Dg.D l) (hla : l.length <= 1048576) {n : Nat} (hn : n <= 1048576) :
  Spec Tryz.prog gl 177 [lim l,.int .i64 (n : Int)] (lim (Dg.mag (Dg.val l * 2 ^ n))):=by
 have la : ((irows .u32 l).length : Int) = l.length:=by rw [irows_len]
 have hW : w64 (Int.tdiv (n : Int) 32) = ((n / 32 : Nat) : Int):=by
  rcases tdiv32 n with h | h
  ·exact h
  ·omega
 have hR : Int.tmod (n : Int) 32 = ((n % 32 : Nat) : Int):=by rw [Int.ofNat_tmod]; rfl
 obtain ⟨w,hw⟩ : ∃ w,w = n / 32:=⟨_,rfl⟩
 obtain ⟨r,hr⟩ : ∃ r,r = n % 32:=⟨_,rfl⟩
 have hnw : n = 32 * w + r:=by omega
 have hr32 : r < 32:=by omega
 have hw15 : w <= 32768:=by omega
 rw [<- hw] at hW
 rw [<- hr] at hR
 have hL : w64 (w64 (((irows .u32 l).length : Int) + w64 (Int.tdiv (n : Int) 32)) + 1) = ((l.length + w + 1 : Nat) : Int):=by
  rw [hW,la,w64_eq (n:=(l.length : Int) + (w : Int)) (by omega),w64_eq (by omega)]; omega
 have hLn : (w64 (w64 (((irows .u32 l).length : Int) + w64 (Int.tdiv (n : Int) 32)) + 1)).toNat = l.length + w + 1:=by omega
 refine spec_fn T_ok mixed_ok 0 Tryz.func177 fn_ok177 (by kernel_rfl) ?_
 refine And.intro (by decide) ?_
 refine And.intro (show (0 : Int) <= w64 (w64 (((irows .u32 l).length : Int) + w64 (Int.tdiv (n : Int) 32)) + 1) by rw [hL]; omega) (And.intro (Int.le_refl _) (And.intro (show w64 (w64 (((irows .u32 l).length : Int) + w64 (Int.tdiv (n : Int) 32)) + 1) * 4 <= 140737488355328 by rw [hL]; omega) (And.intro (show w64 (w64 (((irows .u32 l).length : Int) + w64 (Int.tdiv (n : Int) 32)) + 1) <= maxLen by rw [hL]; simp [maxLen]; omega) ?_)))
 refine aw_loop (fun q : Nat × List Int => stOf [(0,lim l),(1,.int .i64 (n : Int)),(5,.ms 0 0 (l.length + w + 1)),(6,.int .i64 (q.1 : Int))] [(0,.arr (60,1) (irows .u32 q.2) true)] 1)
  (fun q => q.1 <= l.length∧Dg.D q.2∧q.2.length = l.length + w + 1∧(∀ j,q.1 + w < j -> q.2.getD j 0 = 0)∧q.2.getD (q.1 + w) 0 < 2 ^ r∧Dg.val q.2 = Dg.B ^ w * (Dg.val (l.take q.1) * 2 ^ r)) (fun q => l.length - q.1) (0,List.replicate (l.length + w + 1) 0)
  ⟨Nat.zero_le _,Dg.D.rep _,by simp,fun j _ => by simp [List.getD_eq_getElem?_getD,List.getElem?_replicate]; split <;> rfl,?_,by simp [Dg.val_rep,Dg.val]⟩
  (le_by ⟨rfl,rfl,(show AV.ms 0 0 (w64 (w64 (((irows .u32 l).length : Int) + w64 (Int.tdiv (n : Int) 32)) + 1)).toNat = _ by rw [hLn]),rfl,trivial⟩ ⟨(show some (Blk.arr (60,1) (List.replicate (w64 (w64 (((irows .u32 l).length : Int) + w64 (Int.tdiv (n : Int) 32)) + 1)).toNat [AV.int .u32 0]) true) = _ by rw [hLn,irows_rep]),trivial⟩ (Nat.le_refl _)) ?_
 ·simp [List.getD_eq_getElem?_getD,List.getElem?_replicate]
  have : (0 : Int) < 2 ^ r:=Int.pow_pos (by decide)
  split <;> simpa using this
 rintro ⟨i,o⟩ ⟨hi,ho,hol,hz,hc,hv⟩ P hP
 simp only at hi ho hol hz hc hv
 refine br (fun h2 => ?_) (fun h2 => ?_)
 ·have h2' : i < l.length:=by have : (i : Int) < ((irows .u32 l).length : Int):=h2; omega
  have lx:=Dg.getD_bd hl i
  have ox:=Dg.getD_bd ho (i + w)
  have i0 : 0 <= (i : Int):=by omega
  have ix : (irows .u32 l)[((i : Int)).toNat]? = some [.int .u32 (l.getD i 0)]:=irows_at (getD_some h2')
  have hI : w64 ((i : Int) + w64 (Int.tdiv (n : Int) 32)) = ((i + w : Nat) : Int):=by rw [hW,w64_eq (by omega)]; omega
  have hI2 : w64 (w64 ((i : Int) + w64 (Int.tdiv (n : Int) 32)) + 1) = ((i + w + 1 : Nat) : Int):=by rw [hI,w64_eq (by omega)]; omega
  have hoi : (irows .u32 o)[0 + (w64 ((i : Int) + w64 (Int.tdiv (n : Int) 32))).toNat]? = some [.int .u32 (o.getD (i + w) 0)]:=irows_at (by rw [hI,Nat.zero_add]; exact getD_some (by simp; omega))
  obtain ⟨x,hx⟩:=Int.eq_ofNat_of_zero_le lx.1
  obtain ⟨v,hvv⟩:=Int.eq_ofNat_of_zero_le ox.1
  simp only [Dg.B] at lx ox
  obtain ⟨p1,p2,p3,p4⟩:=limb_parts (x:=x) (r:=r) (by omega) hr32
  have hvr : v < 2 ^ r:=by
   rw [hvv] at hc
   have e : ((2 ^ r : Nat) : Int) = 2 ^ r:=by simp
   omega
  have et : IntKind.u64.wrap (IntKind.u64.wrap (l.getD i 0) * 2 ^ (min (Int.tmod (n : Int) 32).toNat IntKind.u64.bits)) = ((x * 2 ^ r : Nat) : Int):=by
   rw [hR,Int.toNat_natCast,Nat.min_eq_left (show r <= IntKind.u64.bits from Nat.le_of_lt (Nat.lt_of_lt_of_le hr32 (by decide))),hx]
   have e1 : IntKind.u64.wrap (x : Int) = (x : Int):=u64_in (by omega)
   have e2 : (x : Int) * 2 ^ r = ((x * 2 ^ r : Nat) : Int):=by simp
   rw [e1,e2]
   exact u64_in (by omega)
  have elo : Go.bits .or .u32 (o.getD (i + w) 0) (u32 (IntKind.u64.wrap (IntKind.u64.wrap (l.getD i 0) * 2 ^ (min (Int.tmod (n : Int) 32).toNat IntKind.u64.bits)))) = ((v + x * 2 ^ r % 4294967296 : Nat) : Int):=by
   rw [et,hvv,u32_eq,show ((x * 2 ^ r : Nat) : Int) % 4294967296 = ((x * 2 ^ r % 4294967296 : Nat) : Int) by omega]
   exact or32 hvr p3 (by omega)
  have ehi : u32 (u64 (Int.tdiv (IntKind.u64.wrap (IntKind.u64.wrap (l.getD i 0) * 2 ^ (min (Int.tmod (n : Int) 32).toNat IntKind.u64.bits))) 4294967296)) = ((x * 2 ^ r / 4294967296 : Nat) : Int):=by
   rw [et,Int.tdiv_eq_ediv_of_nonneg (Int.natCast_nonneg _),u64_in (by omega),u32_in (by omega)]
   omega
  have hL0 : i + w + 1 < o.length:=by omega
  have hz1:=hz (i + w + 1) (by omega)
  have hoi2 : ((irows .u32 o).set (0 + (w64 ((i : Int) + w64 (Int.tdiv (n : Int) 32))).toNat) [.int .u32 (Go.bits .or .u32 (o.getD (i + w) 0) (u32 (IntKind.u64.wrap (IntKind.u64.wrap (l.getD i 0) * 2 ^ (min (Int.tmod (n : Int) 32).toNat IntKind.u64.bits)))))])[0 + (w64 (w64 ((i : Int) + w64 (Int.tdiv (n : Int) 32)) + 1)).toNat]? = some [.int .u32 0]:=by
   rw [hI2,hI,Nat.zero_add,Nat.zero_add,Int.toNat_natCast,Int.toNat_natCast,List.getElem?_set_ne (by omega)]
   have:=irows_at (k:=.u32) (getD_some (l:=o) (i:=i + w + 1) hL0)
   rw [this,hz1]
  have hw2 : w64 ((i : Int) + 1) = ((i + 1 : Nat) : Int):=by rw [w64_eq (by omega)]; omega
  refine And.intro i0 (Exists.intro _ (And.intro ix ?_))
  refine And.intro (by decide) ?_
  refine And.intro (show 0 <= Int.tmod (n : Int) 32 by rw [hR]; omega) ?_
  refine And.intro (by decide) ?_
  refine And.intro (by decide) ?_
  refine And.intro (show (0 : Int) <= w64 ((i : Int) + w64 (Int.tdiv (n : Int) 32)) by rw [hI]; omega) (And.intro (show w64 ((i : Int) + w64 (Int.tdiv (n : Int) 32)) < ((l.length + w + 1 : Nat) : Int) by rw [hI]; omega) (Exists.intro _ (And.intro hoi ?_)))
  refine And.intro (show (0 : Int) <= w64 ((i : Int) + w64 (Int.tdiv (n : Int) 32)) by rw [hI]; omega) (And.intro (show w64 ((i : Int) + w64 (Int.tdiv (n : Int) 32)) < ((l.length + w + 1 : Nat) : Int) by rw [hI]; omega) (Exists.intro _ (And.intro hoi ?_)))
  refine And.intro (by decide) ?_
  refine And.intro (by decide) ?_
  refine And.intro (show (0 : Int) <= w64 (w64 ((i : Int) + w64 (Int.tdiv (n : Int) 32)) + 1) by rw [hI2]; omega) (And.intro (show w64 (w64 ((i : Int) + w64 (Int.tdiv (n : Int) 32)) + 1) < ((l.length + w + 1 : Nat) : Int) by rw [hI2]; omega) (Exists.intro _ (And.intro hoi2 ?_)))
  refine hP (i + 1,(o.set (i + w) ((v : Int) + ((x * 2 ^ r % 4294967296 : Nat) : Int))).set (i + w + 1) ((x * 2 ^ r / 4294967296 : Nat) : Int)) _ (le_by ⟨rfl,rfl,rfl,int_eq hw2,trivial⟩ ⟨(show some (Blk.arr (60,1) (((irows .u32 o).set (0 + (w64 ((i : Int) + w64 (Int.tdiv (n : Int) 32))).toNat) [.int .u32 (Go.bits .or .u32 (o.getD (i + w) 0) (u32 (IntKind.u64.wrap (IntKind.u64.wrap (l.getD i 0) * 2 ^ (min (Int.tmod (n : Int) 32).toNat IntKind.u64.bits)))))]).set (0 + (w64 (w64 ((i : Int) + w64 (Int.tdiv (n : Int) 32)) + 1)).toNat) [.int .u32 (u32 (u64 (Int.tdiv (IntKind.u64.wrap (IntKind.u64.wrap (l.getD i 0) * 2 ^ (min (Int.tmod (n : Int) 32).toNat IntKind.u64.bits))) 4294967296)))]) true) = _ by rw [elo,ehi,hI2,hI,Nat.zero_add,Nat.zero_add,irows_set,irows_set,Int.natCast_add]; rfl),trivial⟩ (Nat.le_refl _))
   ⟨by show i + 1 <= _; omega,(ho.set (by omega) (by simp only [Dg.B]; omega)).set (by omega) (by simp only [Dg.B]; omega),by simp [hol],fun j hj => ?_,?_,?_⟩ (by show l.length - (i + 1) < l.length - i; omega)
  ·have hj' : i + 1 + w < j:=hj
   have:=hz j (by omega)
   show ((o.set (i + w) _).set (i + w + 1) _).getD j 0 = 0
   rw [List.getD_eq_getElem?_getD] at this ⊢
   rw [List.getElem?_set_ne (by omega),List.getElem?_set_ne (by omega)]; exact this
  ·show ((o.set (i + w) _).set (i + w + 1) ((x * 2 ^ r / 4294967296 : Nat) : Int)).getD (i + 1 + w) 0 < 2 ^ r
   rw [show i + 1 + w = i + w + 1 by omega,List.getD_eq_getElem?_getD,List.getElem?_set_self (by simp; omega)]
   have e : ((2 ^ r : Nat) : Int) = 2 ^ r:=by simp
   simp only [Option.getD_some]
   omega
  ·show Dg.val ((o.set (i + w) _).set (i + w + 1) _) = _
   rw [left_val hL0 hvv hz1 hv,Dg.take_succ,hx]
   have e6 : ((x * 2 ^ r % 4294967296 : Nat) : Int) + Dg.B * ((x * 2 ^ r / 4294967296 : Nat) : Int) = (x : Int) * 2 ^ r:=by
    have e2 : (x : Int) * 2 ^ r = ((x * 2 ^ r : Nat) : Int):=by simp
    rw [e2]
    simp only [Dg.B]
    omega
   rw [e6,Int.pow_add]
   grind
 ·have h2' : i = l.length:=by have : ¬ (i : Int) < ((irows .u32 l).length : Int):=h2; omega
  subst h2'
  clear hP
  rw [List.take_of_length_le (Nat.le_refl _)] at hv
  have e1 : Dg.val l * 2 ^ n = Dg.val o:=by
   have e2 : (2 : Int) ^ n = Dg.B ^ w * 2 ^ r:=by
    rw [hnw,Int.pow_add,Int.pow_mul]; rfl
   rw [hv,e2]
   grind
  rw [e1]
  have hts:=rtrim_spec gl o (by omega)
  rw [Dg.trim_mag ho] at hts
  have e5 : ((irows .u32 o).drop 0).take (l.length + w + 1) = irows .u32 o:=by
   rw [List.drop_zero,List.take_of_length_le (by rw [irows_len]; omega)]
  rw [show lim o = AV.sl (irows .u32 o) from rfl,<- e5] at hts
  refine And.intro (show 0 + (l.length + w + 1) <= (irows .u32 o).length by rw [irows_len]; omega) ?_
  refine Exists.intro _ (And.intro hts ?_)
  exact And.intro (Or.inr rfl) rfl
theorem plus_spec (gl : List (Nat × AV)) {a b : List Int} (ha : Dg.D a) (hb : Dg.D b) (hla : a.length <= 1048576) (hlb : b.length <= 1048576) :
  Spec Tryz.prog gl 172 [lim a,lim b] (lim (Dg.mag (Dg.val a + Dg.val b))):=by
 have la : ((irows .u32 a).length : Int) = a.length:=by rw [irows_len]
 have lb : ((irows .u32 b).length : Int) = b.length:=by rw [irows_len]
 obtain ⟨m,hm⟩ : ∃ m,m = max a.length b.length:=⟨_,rfl⟩
 have hM : w64 ((if ((irows .u32 a).length : Int) < ((irows .u32 b).length : Int) then ((irows .u32 b).length : Int) else ((irows .u32 a).length : Int)) + 1) = ((m + 1 : Nat) : Int):=by
  rw [la,lb]
  split <;> rw [w64_eq (by omega)] <;> omega
 have hMn : (w64 ((if ((irows .u32 a).length : Int) < ((irows .u32 b).length : Int) then ((irows .u32 b).length : Int) else ((irows .u32 a).length : Int)) + 1)).toNat = m + 1:=by omega
 refine spec_fn T_ok mixed_ok 0 Tryz.func172 fn_ok172 (by kernel_rfl) ?_
 refine And.intro (show (0 : Int) <= w64 ((if ((irows .u32 a).length : Int) < ((irows .u32 b).length : Int) then ((irows .u32 b).length : Int) else ((irows .u32 a).length : Int)) + 1) by omega) (And.intro (Int.le_refl _) (And.intro (show w64 ((if ((irows .u32 a).length : Int) < ((irows .u32 b).length : Int) then ((irows .u32 b).length : Int) else ((irows .u32 a).length : Int)) + 1) * 4 <= 140737488355328 by omega) (And.intro (show w64 ((if ((irows .u32 a).length : Int) < ((irows .u32 b).length : Int) then ((irows .u32 b).length : Int) else ((irows .u32 a).length : Int)) + 1) <= maxLen by rw [hM]; simp [maxLen]; omega) ?_)))
 refine aw_loop (fun q : Nat × List Int × Int => stOf [(0,lim a),(1,lim b),(5,.ms 0 0 (m + 1)),(6,.int .u64 q.2.2),(7,.int .i64 (q.1 : Int))] [(0,.arr (60,1) (irows .u32 q.2.1) true)] 1)
  (fun q => q.1 <= m + 1∧Dg.D q.2.1∧q.2.1.length = m + 1∧(0 <= q.2.2∧q.2.2 <= 1)∧Dg.val (q.2.1.take q.1) + Dg.B ^ q.1 * q.2.2 = Dg.val (a.take q.1) + Dg.val (b.take q.1)) (fun q => m + 1 - q.1) (0,List.replicate (m + 1) 0,0)
  ⟨Nat.zero_le _,Dg.D.rep _,by simp,⟨Int.le_refl 0,by show (0 : Int) <= 1; decide⟩,by simp [Dg.val]⟩
  (le_by ⟨rfl,rfl,(show AV.ms 0 0 (w64 ((if ((irows .u32 a).length : Int) < ((irows .u32 b).length : Int) then ((irows .u32 b).length : Int) else ((irows .u32 a).length : Int)) + 1)).toNat = _ by rw [hMn]),rfl,rfl,trivial⟩ ⟨(show some (Blk.arr (60,1) (List.replicate (w64 ((if ((irows .u32 a).length : Int) < ((irows .u32 b).length : Int) then ((irows .u32 b).length : Int) else ((irows .u32 a).length : Int)) + 1)).toNat [AV.int .u32 0]) true) = _ by rw [hMn,irows_rep]),trivial⟩ (Nat.le_refl _)) ?_
 rintro ⟨i,o,c⟩ ⟨hi,ho,hol,hc,hv⟩ P hP
 simp only at hi ho hol hc hv
 refine br (fun h2 => ?_) (fun h2 => ?_)
 ·have h2' : i < m + 1:=by have : (i : Int) < ((m + 1 : Nat) : Int):=h2; omega
  have ax:=Dg.getD_bd ha i
  have bx:=Dg.getD_bd hb i
  simp only [Dg.B] at ax bx
  have hw2 : w64 ((i : Int) + 1) = ((i + 1 : Nat) : Int):=by rw [w64_eq (by omega)]; omega
  have hoi : (irows .u32 o)[0 + ((i : Int)).toNat]? = some [.int .u32 (o.getD i 0)]:=irows_at (by rw [Nat.zero_add]; exact getD_some (by simp; omega))
  refine br (fun h3 => ?_) (fun h3 => ?_)
  ·have h3' : i < a.length:=by have : (i : Int) < ((irows .u32 a).length : Int):=h3; omega
   have ix : (irows .u32 a)[((i : Int)).toNat]? = some [.int .u32 (a.getD i 0)]:=irows_at (getD_some h3')
   refine And.intro (show (0 : Int) <= (i : Int) by omega) (Exists.intro _ (And.intro ix ?_))
   have es : u64 (c + u64 (a.getD i 0)) = a.getD i 0 + c:=by rw [u64_in (n:=a.getD i 0) (by omega),u64_in (by omega)]; omega
   refine br (fun h4 => ?_) (fun h4 => ?_)
   ·have h4' : i < b.length:=by have : (i : Int) < ((irows .u32 b).length : Int):=h4; rw [irows_len] at this; omega
    have iy : (irows .u32 b)[((i : Int)).toNat]? = some [.int .u32 (b.getD i 0)]:=irows_at (getD_some h4')
    refine And.intro (show (0 : Int) <= (i : Int) by omega) (Exists.intro _ (And.intro iy ?_))
    have es2 : u64 (u64 (c + u64 (a.getD i 0)) + u64 (b.getD i 0)) = a.getD i 0 + b.getD i 0 + c:=by rw [u64_in (n:=b.getD i 0) (by omega),u64_in (by omega)]; omega
    refine And.intro (show (0 : Int) <= (i : Int) by omega) (And.intro (show (i : Int) < ((m + 1 : Nat) : Int) by omega) (Exists.intro _ (And.intro hoi ?_)))
    have e3 : u32 (u64 (u64 (c + u64 (a.getD i 0)) + u64 (b.getD i 0))) = (a.getD i 0 + b.getD i 0 + c) % Dg.B:=by
     rw [<- es2,u32_eq]
    have e4 : u64 (Int.tdiv (u64 (u64 (c + u64 (a.getD i 0)) + u64 (b.getD i 0))) 4294967296) = (a.getD i 0 + b.getD i 0 + c) / Dg.B:=by
     have e5 : 0 <= u64 (u64 (c + u64 (a.getD i 0)) + u64 (b.getD i 0))∧u64 (u64 (c + u64 (a.getD i 0)) + u64 (b.getD i 0)) < 12884901888:=by omega
     rw [<- es2,Int.tdiv_eq_ediv_of_nonneg e5.1,u64_in (by omega)]
    refine And.intro (by decide) ?_
    refine hP (i + 1,o.set i ((a.getD i 0 + b.getD i 0 + c) % Dg.B),(a.getD i 0 + b.getD i 0 + c) / Dg.B) _ (le_by ⟨rfl,rfl,rfl,int_eq e4,int_eq hw2,trivial⟩ ⟨(show some (Blk.arr (60,1) ((irows .u32 o).set (0 + (i : Int).toNat) [.int .u32 (u32 (u64 (u64 (c + u64 (a.getD i 0)) + u64 (b.getD i 0))))]) true) = _ by rw [e3,Nat.zero_add,irows_set]; rfl),trivial⟩ (Nat.le_refl _))
     ⟨by show i + 1 <= m + 1; omega,ho.set (by simp only [Dg.B]; omega) (by simp only [Dg.B]; omega),by simp [hol],by simp only [Dg.B]; omega,?_⟩ (by show m + 1 - (i + 1) < m + 1 - i; omega)
    show Dg.val ((o.set i _).take (i + 1)) + Dg.B ^ (i + 1) * _ = _
    rw [Dg.set_take _ _ _ (by omega),Dg.take_succ a,Dg.take_succ b,Int.pow_succ]
    exact Dg.sum_step hv rfl
   ·have h4' : ¬ i < b.length:=by have : ¬ (i : Int) < ((irows .u32 b).length : Int):=h4; rw [irows_len] at this; omega
    have b0 : b.getD i 0 = 0:=by rw [List.getD_eq_getElem?_getD,List.getElem?_eq_none (by omega)]; rfl
    have es2 : u64 (c + u64 (a.getD i 0)) = a.getD i 0 + b.getD i 0 + c:=by omega
    refine And.intro (show (0 : Int) <= (i : Int) by omega) (And.intro (show (i : Int) < ((m + 1 : Nat) : Int) by omega) (Exists.intro _ (And.intro hoi ?_)))
    have e3 : u32 (u64 (c + u64 (a.getD i 0))) = (a.getD i 0 + b.getD i 0 + c) % Dg.B:=by
     rw [<- es2,u32_eq]
    have e4 : u64 (Int.tdiv (u64 (c + u64 (a.getD i 0))) 4294967296) = (a.getD i 0 + b.getD i 0 + c) / Dg.B:=by
     have e5 : 0 <= u64 (c + u64 (a.getD i 0))∧u64 (c + u64 (a.getD i 0)) < 12884901888:=by omega
     rw [<- es2,Int.tdiv_eq_ediv_of_nonneg e5.1,u64_in (by omega)]
    refine And.intro (by decide) ?_
    refine hP (i + 1,o.set i ((a.getD i 0 + b.getD i 0 + c) % Dg.B),(a.getD i 0 + b.getD i 0 + c) / Dg.B) _ (le_by ⟨rfl,rfl,rfl,int_eq e4,int_eq hw2,trivial⟩ ⟨(show some (Blk.arr (60,1) ((irows .u32 o).set (0 + (i : Int).toNat) [.int .u32 (u32 (u64 (c + u64 (a.getD i 0))))]) true) = _ by rw [e3,Nat.zero_add,irows_set]; rfl),trivial⟩ (Nat.le_refl _))
     ⟨by show i + 1 <= m + 1; omega,ho.set (by simp only [Dg.B]; omega) (by simp only [Dg.B]; omega),by simp [hol],by simp only [Dg.B]; omega,?_⟩ (by show m + 1 - (i + 1) < m + 1 - i; omega)
    show Dg.val ((o.set i _).take (i + 1)) + Dg.B ^ (i + 1) * _ = _
    rw [Dg.set_take _ _ _ (by omega),Dg.take_succ a,Dg.take_succ b,Int.pow_succ]
    exact Dg.sum_step hv rfl
  ·have h3' : ¬ i < a.length:=by have : ¬ (i : Int) < ((irows .u32 a).length : Int):=h3; omega
   have a0 : a.getD i 0 = 0:=by rw [List.getD_eq_getElem?_getD,List.getElem?_eq_none (by omega)]; rfl
   have es : c = a.getD i 0 + c:=by rw [a0]; omega
   refine br (fun h4 => ?_) (fun h4 => ?_)
   ·have h4' : i < b.length:=by have : (i : Int) < ((irows .u32 b).length : Int):=h4; rw [irows_len] at this; omega
    have iy : (irows .u32 b)[((i : Int)).toNat]? = some [.int .u32 (b.getD i 0)]:=irows_at (getD_some h4')
    refine And.intro (show (0 : Int) <= (i : Int) by omega) (Exists.intro _ (And.intro iy ?_))
    have es2 : u64 (c + u64 (b.getD i 0)) = a.getD i 0 + b.getD i 0 + c:=by rw [u64_in (n:=b.getD i 0) (by omega),u64_in (by omega)]; omega
    refine And.intro (show (0 : Int) <= (i : Int) by omega) (And.intro (show (i : Int) < ((m + 1 : Nat) : Int) by omega) (Exists.intro _ (And.intro hoi ?_)))
    have e3 : u32 (u64 (c + u64 (b.getD i 0))) = (a.getD i 0 + b.getD i 0 + c) % Dg.B:=by
     rw [<- es2,u32_eq]
    have e4 : u64 (Int.tdiv (u64 (c + u64 (b.getD i 0))) 4294967296) = (a.getD i 0 + b.getD i 0 + c) / Dg.B:=by
     have e5 : 0 <= u64 (c + u64 (b.getD i 0))∧u64 (c + u64 (b.getD i 0)) < 12884901888:=by omega
     rw [<- es2,Int.tdiv_eq_ediv_of_nonneg e5.1,u64_in (by omega)]
    refine And.intro (by decide) ?_
    refine hP (i + 1,o.set i ((a.getD i 0 + b.getD i 0 + c) % Dg.B),(a.getD i 0 + b.getD i 0 + c) / Dg.B) _ (le_by ⟨rfl,rfl,rfl,int_eq e4,int_eq hw2,trivial⟩ ⟨(show some (Blk.arr (60,1) ((irows .u32 o).set (0 + (i : Int).toNat) [.int .u32 (u32 (u64 (c + u64 (b.getD i 0))))]) true) = _ by rw [e3,Nat.zero_add,irows_set]; rfl),trivial⟩ (Nat.le_refl _))
     ⟨by show i + 1 <= m + 1; omega,ho.set (by simp only [Dg.B]; omega) (by simp only [Dg.B]; omega),by simp [hol],by simp only [Dg.B]; omega,?_⟩ (by show m + 1 - (i + 1) < m + 1 - i; omega)
    show Dg.val ((o.set i _).take (i + 1)) + Dg.B ^ (i + 1) * _ = _
    rw [Dg.set_take _ _ _ (by omega),Dg.take_succ a,Dg.take_succ b,Int.pow_succ]
    exact Dg.sum_step hv rfl
   ·have h4' : ¬ i < b.length:=by have : ¬ (i : Int) < ((irows .u32 b).length : Int):=h4; rw [irows_len] at this; omega
    have b0 : b.getD i 0 = 0:=by rw [List.getD_eq_getElem?_getD,List.getElem?_eq_none (by omega)]; rfl
    have es2 : c = a.getD i 0 + b.getD i 0 + c:=by omega
    refine And.intro (show (0 : Int) <= (i : Int) by omega) (And.intro (show (i : Int) < ((m + 1 : Nat) : Int) by omega) (Exists.intro _ (And.intro hoi ?_)))
    have e3 : u32 (c) = (a.getD i 0 + b.getD i 0 + c) % Dg.B:=by
     rw [<- es2,u32_eq]
    have e4 : u64 (Int.tdiv (c) 4294967296) = (a.getD i 0 + b.getD i 0 + c) / Dg.B:=by
     have e5 : 0 <= c∧c < 12884901888:=by omega
     rw [<- es2,Int.tdiv_eq_ediv_of_nonneg e5.1,u64_in (by omega)]
    refine And.intro (by decide) ?_
    refine hP (i + 1,o.set i ((a.getD i 0 + b.getD i 0 + c) % Dg.B),(a.getD i 0 + b.getD i 0 + c) / Dg.B) _ (le_by ⟨rfl,rfl,rfl,int_eq e4,int_eq hw2,trivial⟩ ⟨(show some (Blk.arr (60,1) ((irows .u32 o).set (0 + (i : Int).toNat) [.int .u32 (u32 (c))]) true) = _ by rw [e3,Nat.zero_add,irows_set]; rfl),trivial⟩ (Nat.le_refl _))
     ⟨by show i + 1 <= m + 1; omega,ho.set (by simp only [Dg.B]; omega) (by simp only [Dg.B]; omega),by simp [hol],by simp only [Dg.B]; omega,?_⟩ (by show m + 1 - (i + 1) < m + 1 - i; omega)
    show Dg.val ((o.set i _).take (i + 1)) + Dg.B ^ (i + 1) * _ = _
    rw [Dg.set_take _ _ _ (by omega),Dg.take_succ a,Dg.take_succ b,Int.pow_succ]
    exact Dg.sum_step hv rfl
 ·have h2' : i = m + 1:=by have : ¬ (i : Int) < ((m + 1 : Nat) : Int):=h2; omega
  subst h2'
  clear hP
  rw [List.take_of_length_le (by omega),List.take_of_length_le (by omega),List.take_of_length_le (by omega)] at hv
  have vo:=Dg.val_nonneg ho
  have hlt : Dg.val a + Dg.val b < Dg.B ^ (m + 1):=by
   have a1:=Dg.val_lt ha
   have b1:=Dg.val_lt hb
   have a2 : Dg.B ^ a.length <= Dg.B ^ m:=by rw [pow_B,pow_B]; exact two_pow_le (by omega)
   have b2 : Dg.B ^ b.length <= Dg.B ^ m:=by rw [pow_B,pow_B]; exact two_pow_le (by omega)
   have:=Dg.pow_pos m
   rw [Int.pow_succ]
   simp only [Dg.B] at *
   omega
  have hc0 : c = 0:=by
   refine Classical.byContradiction fun hc0 => ?_
   have : c = 1:=by omega
   subst this
   omega
  subst hc0
  rw [Int.mul_zero,Int.add_zero] at hv
  have hts:=rtrim_spec gl o (by omega)
  rw [Dg.trim_mag ho,hv] at hts
  have e5 : ((irows .u32 o).drop 0).take (m + 1) = irows .u32 o:=by
   rw [List.drop_zero,List.take_of_length_le (by rw [irows_len]; omega)]
  rw [show lim o = AV.sl (irows .u32 o) from rfl,<- e5] at hts
  refine And.intro (show 0 + (m + 1) <= (irows .u32 o).length by rw [irows_len]; omega) ?_
  refine Exists.intro _ (And.intro hts ?_)
  exact And.intro (Or.inr rfl) rfl
end Ab
end
section
open Go Go.Proofs
namespace Ab
set_option maxRecDepth 100000
set_option maxHeartbeats 1000000
theorem bit_nat {x k : Nat} : (x : Int) / 2 ^ k % 2 = ((x / 2 ^ k % 2 : Nat) : Int):=by
 rw [<- pow_cast,<- Int.natCast_ediv]
 rfl
theorem div_nat {x k : Nat} : (x : Int) / 2 ^ k = ((x / 2 ^ k : Nat) : Int):=by
 rw [<- pow_cast,<- Int.natCast_ediv]
theorem two_bd {l : List Int} (hl : Dg.D l) {t y : Nat} (hv : Dg.val l = ((2 ^ t * y : Nat) : Int)) (hy : 0 < y) : t < 32 * l.length:=by
 refine Nat.not_le.1 fun g => ?_
 have a:=Dg.val_lt hl
 rw [pow_B] at a
 have b:=two_pow_le g
 have c : 2 ^ t * 1 <= 2 ^ t * y:=Nat.mul_le_mul_left _ hy
 have d:=pow_cast t
 omega
theorem rodd_spec (gl : List (Nat × AV)) {l : List Int} (hl : Dg.D l) (hc : Dg.Canon l) (hla : l.length <= 1000) {t y : Nat} (hv : Dg.val l = ((2 ^ t * y : Nat) : Int)) (hy : y % 2 = 1) :
  Spec Tryz.prog gl 174 [lim l] (lim (Dg.mag (y : Int))):=by
 have tb:=two_bd hl hv (by omega)
 have rt:=rright_spec gl hl hc (by omega) (n:=t) (by omega)
 rw [show Dg.val l / 2 ^ t = (y : Int) by rw [hv,div_nat,odd_bit1]] at rt
 generalize decide (Dg.val l % 2 ^ t ≠ 0) = lost at rt
 refine spec_fn T_ok mixed_ok 0 Tryz.func174 fn_ok174 (by kernel_rfl) ?_
 refine aw_loop (fun k : Nat => stOf [(0,lim l),(3,.int .i64 (k : Int))] [] 0) (fun k => k <= t) (fun k => t - k) 0 (Nat.zero_le _)
  (le_by ⟨rfl,rfl,trivial⟩ trivial (Nat.le_refl _)) ?_
 intro k hk P hP
 have bs:=bit_spec gl hl (i:=k) (by omega)
 rw [hv,bit_nat] at bs
 first | refine Exists.intro _ (And.intro (bs) ?_) | refine Hn_by (Exists.intro _ (And.intro (bs) ?_))
 refine brE (fun h2 => ?_) (fun h2 => ?_)
 ·have hkt : k < t:=by
   refine Nat.lt_of_le_of_ne hk fun e => ?_
   subst e
   rw [odd_bit1] at h2
   omega
  have hw2 : w64 ((k : Int) + 1) = ((k + 1 : Nat) : Int):=by rw [w64_eq (by omega)]; omega
  exact hP (k + 1) _ (le_by ⟨rfl,int_eq hw2,trivial⟩ trivial (Nat.le_refl _)) hkt (by omega)
 ·obtain rfl : k = t:=by
   refine Nat.le_antisymm hk (Nat.not_lt.1 fun g => h2 ?_)
   rw [odd_bit0 g]
   rfl
  clear hP
  first | refine Exists.intro _ (And.intro (rt) ?_) | refine Hn_by (Exists.intro _ (And.intro (rt) ?_))
  exact And.intro (Or.inr rfl) rfl
end Ab
end
section
open Go Go.Proofs
namespace Ab
set_option maxRecDepth 100000
set_option maxHeartbeats 1000000
theorem rgcd_zero (gl : List (Nat × AV)) {an bn gn : Bool} {al bl pl ql : List Int} (v1 : Spec Tryz.prog gl 143 [mkI an al] (.bool true)) (v2 : Spec Tryz.prog gl 143 [mkI bn bl] (.bool true)) (la : al.length <= 128) (lb : bl.length <= 128) (h0 : al = [] ∨ bl = [])
  (sp : Spec Tryz.prog gl 172 [lim al,lim bl] (lim pl)) (sf : Spec Tryz.prog gl 170 [.bool false,lim pl] (.tup [mkI gn ql,.int .i64 0])) :
  Spec Tryz.prog gl 153 [mkI an al,mkI bn bl] (.tup [mkI gn ql,.int .i64 0]):=by
 have l1 : (irows .u32 al).length = al.length:=irows_len _ _
 have l2 : (irows .u32 bl).length = bl.length:=irows_len _ _
 have e1 : ((irows .u32 al).drop 0).take (0 + (irows .u32 al).length) = irows .u32 al:=by rw [List.drop_zero,Nat.zero_add,List.take_length]
 have e2 : ((irows .u32 bl).drop 0).take (0 + (irows .u32 bl).length) = irows .u32 bl:=by rw [List.drop_zero,Nat.zero_add,List.take_length]
 refine spec_fn T_ok mixed_ok 0 Tryz.func153 fn_ok153 (by kernel_rfl) ?_
 first | refine Exists.intro _ (And.intro (v1) ?_) | refine Hn_by (Exists.intro _ (And.intro (v1) ?_))
 repeat (first | refine gT ?_ | refine gF ?_ | refine brT ?_ | refine brF ?_)
 first | refine Exists.intro _ (And.intro (v2) ?_) | refine Hn_by (Exists.intro _ (And.intro (v2) ?_))
 repeat (first | refine gT ?_ | refine gF ?_ | refine brT ?_ | refine brF ?_)
 refine And.intro rfl ?_
 refine And.intro (irows_ok _ _) ?_
 refine And.intro (show (0 + (irows .u32 al).length) * 4 <= 140737488355328 by omega) ?_
 refine And.intro (show 0 + (irows .u32 al).length <= maxLen by simp only [maxLen]; omega) ?_
 refine And.intro rfl ?_
 refine And.intro (irows_ok _ _) ?_
 refine And.intro (show (0 + (irows .u32 bl).length) * 4 <= 140737488355328 by omega) ?_
 refine And.intro (show 0 + (irows .u32 bl).length <= maxLen by simp only [maxLen]; omega) ?_
 rw [show lim al = AV.sl (irows .u32 al) from rfl,show lim bl = AV.sl (irows .u32 bl) from rfl,<- e1,<- e2] at sp
 refine grE (fun h => ?_) (fun h => ?_)
 ·repeat (first | refine gT ?_ | refine gF ?_ | refine brT ?_ | refine brF ?_)
  refine And.intro (show 0 + (0 + (irows .u32 al).length) <= (irows .u32 al).length by omega) ?_
  refine And.intro (show 0 + (0 + (irows .u32 bl).length) <= (irows .u32 bl).length by omega) ?_
  refine Exists.intro _ (And.intro sp ?_)
  first | refine Exists.intro _ (And.intro (sf) ?_) | refine Hn_by (Exists.intro _ (And.intro (sf) ?_))
  exact And.intro (Or.inr rfl) rfl
 ·repeat (first | refine gT ?_ | refine gF ?_ | refine brT ?_ | refine brF ?_)
  refine brE (fun h2 => ?_) (fun h2 => ?_)
  ·skip
   refine And.intro (show 0 + (0 + (irows .u32 al).length) <= (irows .u32 al).length by omega) ?_
   refine And.intro (show 0 + (0 + (irows .u32 bl).length) <= (irows .u32 bl).length by omega) ?_
   refine Exists.intro _ (And.intro sp ?_)
   first | refine Exists.intro _ (And.intro (sf) ?_) | refine Hn_by (Exists.intro _ (And.intro (sf) ?_))
   exact And.intro (Or.inr rfl) rfl
  ·exfalso
   have h' : ¬ ((0 + (irows .u32 al).length : Nat) : Int) = 0:=h
   have h2' : ¬ ((0 + (irows .u32 bl).length : Nat) : Int) = 0:=h2
   rcases h0 with rfl | rfl
   ·exact h' rfl
   ·exact h2' rfl
theorem sub_odd (gl : List (Nat × AV)) {x y : Nat} (h : y < x) (hx : x % 2 = 1) (hy : y % 2 = 1) (lx : (Dg.mag (x : Int)).length <= 128) : ∃ z : Nat,z % 2 = 1∧Nat.gcd z y = Nat.gcd x y∧z < x∧(Dg.mag (z : Int)).length <= 128∧∃ d,Spec Tryz.prog gl 176 [lim (Dg.mag (x : Int)),lim (Dg.mag (y : Int))] (lim d)∧Spec Tryz.prog gl 174 [lim d] (lim (Dg.mag (z : Int))):=by
 obtain ⟨t,z,e,hz,hg,hl⟩:=gcd_round h hx hy
 have m:=minus_spec gl (Dg.magD (x : Int)) (Dg.magD (y : Int)) (by omega) (mag_le (Int.natCast_nonneg y) (by omega)) (by rw [Dg.magV (Int.natCast_nonneg x),Dg.magV (Int.natCast_nonneg y)]; omega)
 rw [Dg.magV (Int.natCast_nonneg x),Dg.magV (Int.natCast_nonneg y),show (x : Int) - (y : Int) = ((x - y : Nat) : Int) by omega] at m
 have ld : (Dg.mag ((x - y : Nat) : Int)).length <= 128:=Nat.le_trans (mag_le (y:=(x : Int)) (Int.natCast_nonneg _) (by omega)) lx
 have o:=rodd_spec gl (Dg.magD ((x - y : Nat) : Int)) (Dg.magC _) (by omega) (t:=t) (y:=z) (by rw [Dg.magV (Int.natCast_nonneg _),e]) hz
 exact ⟨z,hz,hg,hl,Nat.le_trans (mag_le (y:=(x : Int)) (Int.natCast_nonneg _) (by omega)) lx,_,m,o⟩
theorem rgcd_walk (gl : List (Nat × AV)) {an bn gn : Bool} {al bl ql : List Int} (v1 : Spec Tryz.prog gl 143 [mkI an al] (.bool true)) (v2 : Spec Tryz.prog gl 143 [mkI bn bl] (.bool true)) (la : al.length <= 128) (lb : bl.length <= 128) (da : Dg.D al) (db : Dg.D bl) (ca : Dg.Canon al) (cb : Dg.Canon bl)
  {s x0 t y0 G : Nat} (va : Dg.val al = ((2 ^ s * x0 : Nat) : Int)) (vb : Dg.val bl = ((2 ^ t * y0 : Nat) : Int)) (hx0 : x0 % 2 = 1) (hy0 : y0 % 2 = 1) (hG : Nat.gcd x0 y0 = G)
  (sf : Spec Tryz.prog gl 170 [.bool false,lim (Dg.mag ((G * 2 ^ min s t : Nat) : Int))] (.tup [mkI gn ql,.int .i64 0])) :
  Spec Tryz.prog gl 153 [mkI an al,mkI bn bl] (.tup [mkI gn ql,.int .i64 0]):=by
 have tb1:=two_bd da va (by omega)
 have tb2:=two_bd db vb (by omega)
 have o1:=rodd_spec gl da ca (by omega) va hx0
 have o2:=rodd_spec gl db cb (by omega) vb hy0
 have n1 : al ≠ []:=fun e => by subst e; simp at tb1
 have n2 : bl ≠ []:=fun e => by subst e; simp at tb2
 have p1:=List.length_pos_iff.2 n1
 have p2:=List.length_pos_iff.2 n2
 have lx0 : (Dg.mag (x0 : Int)).length <= 128:=Nat.le_trans (mag_le (y:=Dg.val al) (Int.natCast_nonneg _) (by rw [va]; have:=Nat.mul_le_mul_right x0 (Nat.pow_pos (n:=s) (show 0 < 2 by decide)); omega)) (by rw [<- Dg.mag_of da ca]; exact la)
 have ly0 : (Dg.mag (y0 : Int)).length <= 128:=Nat.le_trans (mag_le (y:=Dg.val bl) (Int.natCast_nonneg _) (by rw [vb]; have:=Nat.mul_le_mul_right y0 (Nat.pow_pos (n:=t) (show 0 < 2 by decide)); omega)) (by rw [<- Dg.mag_of db cb]; exact lb)
 have bits : ∀ k : Nat,k <= 4096 -> Spec Tryz.prog gl 173 [lim al,.int .i64 (k : Int)] (.int .u32 ((2 ^ s * x0 / 2 ^ k % 2 : Nat) : Int))∧Spec Tryz.prog gl 173 [lim bl,.int .i64 (k : Int)] (.int .u32 ((2 ^ t * y0 / 2 ^ k % 2 : Nat) : Int)):=by
  intro k hk
  have b1:=bit_spec gl da (i:=k) (by omega)
  have b2:=bit_spec gl db (i:=k) (by omega)
  rw [va,bit_nat] at b1
  rw [vb,bit_nat] at b2
  exact ⟨b1,b2⟩
 have l1 : (irows .u32 al).length = al.length:=irows_len _ _
 have l2 : (irows .u32 bl).length = bl.length:=irows_len _ _
 have e1 : ((irows .u32 al).drop 0).take (0 + (irows .u32 al).length) = irows .u32 al:=by rw [List.drop_zero,Nat.zero_add,List.take_length]
 have e2 : ((irows .u32 bl).drop 0).take (0 + (irows .u32 bl).length) = irows .u32 bl:=by rw [List.drop_zero,Nat.zero_add,List.take_length]
 refine spec_fn T_ok mixed_ok 0 Tryz.func153 fn_ok153 (by kernel_rfl) ?_
 first | refine Exists.intro _ (And.intro (v1) ?_) | refine Hn_by (Exists.intro _ (And.intro (v1) ?_))
 repeat (first | refine gT ?_ | refine gF ?_ | refine brT ?_ | refine brF ?_)
 first | refine Exists.intro _ (And.intro (v2) ?_) | refine Hn_by (Exists.intro _ (And.intro (v2) ?_))
 repeat (first | refine gT ?_ | refine gF ?_ | refine brT ?_ | refine brF ?_)
 refine And.intro rfl ?_
 refine And.intro (irows_ok _ _) ?_
 refine And.intro (show (0 + (irows .u32 al).length) * 4 <= 140737488355328 by omega) ?_
 refine And.intro (show 0 + (irows .u32 al).length <= maxLen by simp only [maxLen]; omega) ?_
 refine And.intro rfl ?_
 refine And.intro (irows_ok _ _) ?_
 refine And.intro (show (0 + (irows .u32 bl).length) * 4 <= 140737488355328 by omega) ?_
 refine And.intro (show 0 + (irows .u32 bl).length <= maxLen by simp only [maxLen]; omega) ?_
 rw [show lim al = AV.sl (irows .u32 al) from rfl,<- e1] at o1
 rw [show lim bl = AV.sl (irows .u32 bl) from rfl,<- e2] at o2
 refine grE (fun h => ?_) (fun h => ?_)
 ·have h' : ((0 + (irows .u32 al).length : Nat) : Int) = 0:=h
  omega
 repeat (first | refine gT ?_ | refine gF ?_ | refine brT ?_ | refine brF ?_)
 refine brE (fun h2 => ?_) (fun h2 => ?_)
 ·have h2' : ((0 + (irows .u32 bl).length : Nat) : Int) = 0:=h2
  omega
 clear h h2
 refine aw_loop (fun k : Nat => stOf [(4,.bp 2 0),(6,.ms 4 0 (0 + (irows .u32 al).length)),(7,.ms 6 0 (0 + (irows .u32 bl).length)),(8,.int .i64 (k : Int))] [(2,.box [.bool false,.nil]),(4,.arr (60,1) (irows .u32 al) true),(6,.arr (60,1) (irows .u32 bl) true)] 7)
  (fun k => k <= min s t) (fun k => min s t - k) 0 (Nat.zero_le _)
  (le_by ⟨rfl,rfl,rfl,rfl,trivial⟩ ⟨rfl,rfl,rfl,trivial⟩ (Nat.le_refl _)) ?_
 intro k hk P hP
 obtain ⟨b1,b2⟩:=bits k (by omega)
 rw [show lim al = AV.sl (irows .u32 al) from rfl,<- e1] at b1
 rw [show lim bl = AV.sl (irows .u32 bl) from rfl,<- e2] at b2
 have hw2 : w64 ((k : Int) + 1) = ((k + 1 : Nat) : Int):=by rw [w64_eq (by omega)]; omega
 refine And.intro (show 0 + (0 + (irows .u32 al).length) <= (irows .u32 al).length by omega) ?_
 refine Exists.intro _ (And.intro b1 ?_)
 refine brE (fun h3 => ?_) (fun h3 => ?_)
 ·repeat (first | refine gT ?_ | refine gF ?_ | refine brT ?_ | refine brF ?_)
  refine And.intro (show 0 + (0 + (irows .u32 bl).length) <= (irows .u32 bl).length by omega) ?_
  refine Exists.intro _ (And.intro b2 ?_)
  repeat (first | refine gT ?_ | refine gF ?_ | refine brT ?_ | refine brF ?_)
  have h3' : ((2 ^ s * x0 / 2 ^ k % 2 : Nat) : Int) = 0:=h3
  have ks : k ≠ s:=fun e => by subst e; rw [odd_bit1] at h3'; omega
  refine brE (fun h4 => ?_) (fun h4 => ?_)
  ·have h4' : ((2 ^ t * y0 / 2 ^ k % 2 : Nat) : Int) = 0:=h4
   have kt : k ≠ t:=fun e => by subst e; rw [odd_bit1] at h4'; omega
   exact hP (k + 1) _ (le_by ⟨rfl,rfl,rfl,int_eq hw2,trivial⟩ ⟨rfl,rfl,rfl,trivial⟩ (Nat.le_refl _)) (by show k + 1 <= min s t; omega) (by omega)
  ·have hkm : k = min s t:=by
    have : ¬ k < t:=fun g => h4 (by show ((2 ^ t * y0 / 2 ^ k % 2 : Nat) : Int) = 0; rw [odd_bit0 g]; rfl)
    omega
   clear hP
   refine And.intro (show 0 + (0 + (irows .u32 al).length) <= (irows .u32 al).length by omega) ?_
   refine Exists.intro _ (And.intro o1 ?_)
   refine And.intro (show 0 + (0 + (irows .u32 bl).length) <= (irows .u32 bl).length by omega) ?_
   refine Exists.intro _ (And.intro o2 ?_)
   refine aw_loop (fun q : Nat × Nat => stOf [(4,.bp 2 0),(6,lim (Dg.mag (q.1 : Int))),(7,lim (Dg.mag (q.2 : Int))),(8,.int .i64 (k : Int))] [(2,.box [.bool false,.nil])] 7)
    (fun q => q.1 % 2 = 1∧q.2 % 2 = 1∧Nat.gcd q.1 q.2 = G∧(Dg.mag (q.1 : Int)).length <= 128∧(Dg.mag (q.2 : Int)).length <= 128) (fun q => q.1 + q.2) (x0,y0) ⟨hx0,hy0,hG,lx0,ly0⟩
    (le_by ⟨rfl,rfl,rfl,rfl,trivial⟩ ⟨rfl,trivial⟩ (Nat.le_refl _)) ?_
   rintro ⟨x,y⟩ ⟨hx,hy,hg,lx,ly⟩ P hP
   simp only at hx hy hg lx ly
   have ord:=order_spec gl (Dg.magD (x : Int)) (Dg.magD (y : Int)) (Dg.magC _) (Dg.magC _) (by omega)
   rw [Dg.magV (Int.natCast_nonneg x),Dg.magV (Int.natCast_nonneg y)] at ord
   first | refine Exists.intro _ (And.intro (ord) ?_) | refine Hn_by (Exists.intro _ (And.intro (ord) ?_))
   refine brN (fun g1 => ?_) (fun g1 => ?_)
   ·first | refine Exists.intro _ (And.intro (ord) ?_) | refine Hn_by (Exists.intro _ (And.intro (ord) ?_))
    refine br (fun g2 => ?_) (fun g2 => ?_)
    ·have hlt : x < y:=by have:=cmp_neg.1 g2; omega
     obtain ⟨z,hz,hzg,hzl,lz,d,sm,so⟩:=sub_odd gl hlt hy hx ly
     first | refine Exists.intro _ (And.intro (sm) ?_) | refine Hn_by (Exists.intro _ (And.intro (sm) ?_))
     first | refine Exists.intro _ (And.intro (so) ?_) | refine Hn_by (Exists.intro _ (And.intro (so) ?_))
     exact hP (z,x) _ (le_by ⟨rfl,rfl,rfl,rfl,trivial⟩ ⟨rfl,trivial⟩ (Nat.le_refl _)) ⟨hz,hx,by rw [<- hg]; show Nat.gcd z x = Nat.gcd x y; rw [hzg,Nat.gcd_comm],lz,lx⟩ (by show z + x < x + y; omega)
    ·have hlt : y < x:=by
          have g3 : ¬ (x : Int) < (y : Int):=fun e => g2 (cmp_neg.2 e)
          have g4 : x ≠ y:=fun e => g1 (by subst e; show Dg.cmp (x : Int) (x : Int) = 0; unfold Dg.cmp; rw [if_neg (by omega),if_neg (by omega)])
          omega
     obtain ⟨z,hz,hzg,hzl,lz,d,sm,so⟩:=sub_odd gl hlt hx hy lx
     first | refine Exists.intro _ (And.intro (sm) ?_) | refine Hn_by (Exists.intro _ (And.intro (sm) ?_))
     first | refine Exists.intro _ (And.intro (so) ?_) | refine Hn_by (Exists.intro _ (And.intro (so) ?_))
     exact hP (z,y) _ (le_by ⟨rfl,rfl,rfl,rfl,trivial⟩ ⟨rfl,trivial⟩ (Nat.le_refl _)) ⟨hz,hy,by rw [<- hg]; exact hzg,lz,ly⟩ (by show z + y < x + y; omega)
   ·clear hP
    have hxy : x = y:=by
     have g1' : Dg.cmp (x : Int) (y : Int) = 0:=g1
     unfold Dg.cmp at g1'
     split at g1'
     ·omega
     ·split at g1' <;> omega
    subst hxy
    rw [Nat.gcd_self] at hg
    subst hg
    have sl:=rleft_spec gl (Dg.magD (x : Int)) (by omega) (n:=k) (by omega)
    rw [Dg.magV (Int.natCast_nonneg x),<- pow_cast,<- Int.natCast_mul] at sl
    rw [<- hkm] at sf
    first | refine Exists.intro _ (And.intro (sl) ?_) | refine Hn_by (Exists.intro _ (And.intro (sl) ?_))
    first | refine Exists.intro _ (And.intro (sf) ?_) | refine Hn_by (Exists.intro _ (And.intro (sf) ?_))
    exact And.intro (Or.inr rfl) rfl
 ·have hkm : k = min s t:=by
   have : ¬ k < s:=fun g => h3 (by show ((2 ^ s * x0 / 2 ^ k % 2 : Nat) : Int) = 0; rw [odd_bit0 g]; rfl)
   omega
  repeat (first | refine gT ?_ | refine gF ?_ | refine brT ?_ | refine brF ?_)
  clear hP
  refine And.intro (show 0 + (0 + (irows .u32 al).length) <= (irows .u32 al).length by omega) ?_
  refine Exists.intro _ (And.intro o1 ?_)
  refine And.intro (show 0 + (0 + (irows .u32 bl).length) <= (irows .u32 bl).length by omega) ?_
  refine Exists.intro _ (And.intro o2 ?_)
  refine aw_loop (fun q : Nat × Nat => stOf [(4,.bp 2 0),(6,lim (Dg.mag (q.1 : Int))),(7,lim (Dg.mag (q.2 : Int))),(8,.int .i64 (k : Int))] [(2,.box [.bool false,.nil])] 7)
   (fun q => q.1 % 2 = 1∧q.2 % 2 = 1∧Nat.gcd q.1 q.2 = G∧(Dg.mag (q.1 : Int)).length <= 128∧(Dg.mag (q.2 : Int)).length <= 128) (fun q => q.1 + q.2) (x0,y0) ⟨hx0,hy0,hG,lx0,ly0⟩
   (le_by ⟨rfl,rfl,rfl,rfl,trivial⟩ ⟨rfl,trivial⟩ (Nat.le_refl _)) ?_
  rintro ⟨x,y⟩ ⟨hx,hy,hg,lx,ly⟩ P hP
  simp only at hx hy hg lx ly
  have ord:=order_spec gl (Dg.magD (x : Int)) (Dg.magD (y : Int)) (Dg.magC _) (Dg.magC _) (by omega)
  rw [Dg.magV (Int.natCast_nonneg x),Dg.magV (Int.natCast_nonneg y)] at ord
  first | refine Exists.intro _ (And.intro (ord) ?_) | refine Hn_by (Exists.intro _ (And.intro (ord) ?_))
  refine brN (fun g1 => ?_) (fun g1 => ?_)
  ·first | refine Exists.intro _ (And.intro (ord) ?_) | refine Hn_by (Exists.intro _ (And.intro (ord) ?_))
   refine br (fun g2 => ?_) (fun g2 => ?_)
   ·have hlt : x < y:=by have:=cmp_neg.1 g2; omega
    obtain ⟨z,hz,hzg,hzl,lz,d,sm,so⟩:=sub_odd gl hlt hy hx ly
    first | refine Exists.intro _ (And.intro (sm) ?_) | refine Hn_by (Exists.intro _ (And.intro (sm) ?_))
    first | refine Exists.intro _ (And.intro (so) ?_) | refine Hn_by (Exists.intro _ (And.intro (so) ?_))
    exact hP (z,x) _ (le_by ⟨rfl,rfl,rfl,rfl,trivial⟩ ⟨rfl,trivial⟩ (Nat.le_refl _)) ⟨hz,hx,by rw [<- hg]; show Nat.gcd z x = Nat.gcd x y; rw [hzg,Nat.gcd_comm],lz,lx⟩ (by show z + x < x + y; omega)
   ·have hlt : y < x:=by
     have g3 : ¬ (x : Int) < (y : Int):=fun e => g2 (cmp_neg.2 e)
     have g4 : x ≠ y:=fun e => g1 (by subst e; show Dg.cmp (x : Int) (x : Int) = 0; unfold Dg.cmp; rw [if_neg (by omega),if_neg (by omega)])
     omega
    obtain ⟨z,hz,hzg,hzl,lz,d,sm,so⟩:=sub_odd gl hlt hx hy lx
    first | refine Exists.intro _ (And.intro (sm) ?_) | refine Hn_by (Exists.intro _ (And.intro (sm) ?_))
    first | refine Exists.intro _ (And.intro (so) ?_) | refine Hn_by (Exists.intro _ (And.intro (so) ?_))
    exact hP (z,y) _ (le_by ⟨rfl,rfl,rfl,rfl,trivial⟩ ⟨rfl,trivial⟩ (Nat.le_refl _)) ⟨hz,hy,by rw [<- hg]; exact hzg,lz,ly⟩ (by show z + y < x + y; omega)
  ·clear hP
   have hxy : x = y:=by
    have g1' : Dg.cmp (x : Int) (y : Int) = 0:=g1
    unfold Dg.cmp at g1'
    split at g1'
    ·omega
    ·split at g1' <;> omega
   subst hxy
   rw [Nat.gcd_self] at hg
   subst hg
   have sl:=rleft_spec gl (Dg.magD (x : Int)) (by omega) (n:=k) (by omega)
   rw [Dg.magV (Int.natCast_nonneg x),<- pow_cast,<- Int.natCast_mul] at sl
   rw [<- hkm] at sf
   first | refine Exists.intro _ (And.intro (sl) ?_) | refine Hn_by (Exists.intro _ (And.intro (sl) ?_))
   first | refine Exists.intro _ (And.intro (sf) ?_) | refine Hn_by (Exists.intro _ (And.intro (sf) ?_))
   exact And.intro (Or.inr rfl) rfl
theorem rgcd_int (gl : List (Nat × AV)) {a b : Int} (ha : Fits a) (hb : Fits b) : Spec Tryz.prog gl 153 [mkZ a,mkZ b] (.tup [mkZ (Int.gcd a b : Int),.int .i64 0]):=by
 have v1:=rvalid_int gl ha
 have v2:=rvalid_int gl hb
 have la:=fits_len ha
 have lb:=fits_len hb
 have da:=Dg.magD (az a)
 have db:=Dg.magD (az b)
 have ca:=Dg.magC (az a)
 have cb:=Dg.magC (az b)
 have va:=val_az a
 have vb:=val_az b
 by_cases h0 : a = 0 ∨ b = 0
 ·have sp:=plus_spec gl da db (by omega) (by omega)
  have e : az a + az b = (Int.gcd a b : Int):=by
   rcases h0 with rfl | rfl
   ·rw [Int.gcd_zero_left]; unfold az; omega
   ·rw [Int.gcd_zero_right]; unfold az; omega
  have fg : Fits (Int.gcd a b : Int):=by
   rw [<- e]
   rcases h0 with rfl | rfl
   ·rw [show az 0 + az b = az b by unfold az; omega]; unfold Fits; rw [fits_nn (az_nn b)]; exact hb
   ·rw [show az a + az 0 = az a by unfold az; omega]; unfold Fits; rw [fits_nn (az_nn a)]; exact ha
  rw [va,vb,e] at sp
  have sf:=rfit_int gl (neg:=false) (x:=(Int.gcd a b : Int)) (z:=(Int.gcd a b : Int)) (Int.natCast_nonneg _) rfl fg
  have hz : Dg.mag (az a) = [] ∨ Dg.mag (az b) = []:=by
   rcases h0 with rfl | rfl
   ·exact .inl ((mag_nil (az_nn 0)).2 rfl)
   ·exact .inr ((mag_nil (az_nn 0)).2 rfl)
  exact rgcd_zero gl v1 v2 la lb hz sp sf
 ·have a0 : 0 < a.natAbs:=by omega
  have b0 : 0 < b.natAbs:=by omega
  obtain ⟨s,x,ex,hx⟩:=two_odd a.natAbs a0
  obtain ⟨t,y,ey,hy⟩:=two_odd b.natAbs b0
  have eg : (Int.gcd a b : Int) = ((Nat.gcd x y * 2 ^ min s t : Nat) : Int):=by
   show ((Nat.gcd a.natAbs b.natAbs : Nat) : Int) = _
   rw [ex,ey,gcd_both hx hy]
  have fg : Fits (Int.gcd a b : Int):=fits_le (b:=b) (by
   have:=Nat.gcd_le_right a.natAbs b0
   have e : az (Int.gcd a b : Int) = (Nat.gcd a.natAbs b.natAbs : Int):=fits_nn (Int.natCast_nonneg _)
   rw [e]; unfold az; omega) hb
  have sf:=rfit_int gl (neg:=false) (x:=(Int.gcd a b : Int)) (z:=(Int.gcd a b : Int)) (Int.natCast_nonneg _) rfl fg
  rw [show lim (Dg.mag (Int.gcd a b : Int)) = lim (Dg.mag ((Nat.gcd x y * 2 ^ min s t : Nat) : Int)) by rw [eg]] at sf
  exact rgcd_walk gl v1 v2 la lb da db ca cb (by rw [va,<- ex]; rfl) (by rw [vb,<- ey]; rfl) hx hy rfl sf
end Ab
end
section
open Go Go.Proofs
namespace Ab
set_option maxRecDepth 100000
set_option maxHeartbeats 1000000
theorem rof_int (gl : List (Nat × AV)) {n d : Int} (h0 : -9223372036854775808 <= n) (h1 : n <= 9223372036854775807) (h2 : 0 < d) (h3 : d < 4294967296) : Spec Tryz.prog gl 48 [.int .i64 n,.int .i64 d] (.tup [mkR (n / Int.gcd n d) (d / Int.gcd n d),.int .i64 0]):=by
 have hn:=fits_i64 h0 h1
 have hd:=fits_i64 (n:=d) (by omega) (by omega)
 have o1:=rOf_spec gl n h0 h1
 have o2:=rOf_spec gl d (by omega) (by omega)
 have v1:=rvalid_int gl hn
 have v2:=rvalid_int gl hd
 have s:=rgcd_int gl hn hd
 have g0:=gcd_pos (n:=n) h2
 have g1:=gcd_le (n:=n) h2
 have dn:=Int.gcd_dvd_left n d
 have dv:=Int.gcd_dvd_right n d
 generalize (Int.gcd n d : Int) = g at *
 have d1:=rdivmod_int gl hn g0 (by omega) dn
 have d2:=rdivmod_int gl hd g0 (by omega) dv
 have q0 : 0 < d / g:=Int.ediv_pos_of_pos_of_dvd h2 (by omega) dv
 have s3:=rzero_spec gl false (Dg.mag d)
 rw [decide_eq_false (fun e => by have:=(mag_nil (n:=d) (by omega)).1 e; omega)] at s3
 rw [mkZ_nn (a:=g) (by omega)] at s d1 d2
 rw [mkZ_nn (a:=d) (by omega)] at o2 v2 s d2
 rw [mkZ_nn (a:=d / g) (by omega)] at d2
 rw [mkR_pos q0]
 exact rof_walk gl o1 o2 (rmake_walk gl v1 v2 s3 (lowest_walk gl s d1 d2))
end Ab
end
