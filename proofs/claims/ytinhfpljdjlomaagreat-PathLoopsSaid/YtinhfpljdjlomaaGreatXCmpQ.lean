import Derived.Test.YtinhfpljdjlomaaGreatXQv
open Go Go.Proofs
namespace Ab
set_option maxRecDepth 100000
set_option maxHeartbeats 1000000
theorem rem_fits {n g : Int} (h : 0 < g) (hg : Fits g) : Fits (n % g):=fits_le (by
 have:=Int.emod_nonneg n (by omega : g ≠ 0)
 have:=Int.emod_lt_of_pos n h
 unfold az; omega) hg
theorem cmp_lt {x y : Int} (h : x < y) : Dg.cmp x y = -1:=by unfold Dg.cmp; rw [if_pos h]
theorem cmp_gt {x y : Int} (h : y < x) : Dg.cmp x y = 1:=by unfold Dg.cmp; rw [if_neg (by omega),if_pos h]
theorem cmp_eq {x y : Int} (h : x = y) : Dg.cmp x y = 0:=by unfold Dg.cmp; rw [if_neg (by omega),if_neg (by omega)]
theorem cmp_zero {x y : Int} : Dg.cmp x y = 0 ↔ x = y:=by unfold Dg.cmp; split <;> (try split) <;> omega
theorem cmp_bound (x y : Int) : -1 <= Dg.cmp x y ∧ Dg.cmp x y <= 1:=by unfold Dg.cmp; split <;> (try split) <;> omega
theorem cmp_floor {n d m f : Int} (hd : 0 < d) (hf : 0 < f) : (n / d ≠ m / f -> Dg.cmp (n * f) (m * d) = Dg.cmp (n / d) (m / f)) ∧ (n / d = m / f -> Dg.cmp (n * f) (m * d) = Dg.cmp (n % d * f) (m % f * d)):=by
 have e1:=Int.mul_ediv_add_emod n d
 have e2:=Int.mul_ediv_add_emod m f
 have a0:=Int.emod_nonneg n (by omega : d ≠ 0)
 have a1:=Int.emod_lt_of_pos n hd
 have b0:=Int.emod_nonneg m (by omega : f ≠ 0)
 have b1:=Int.emod_lt_of_pos m hf
 generalize n / d = q at *
 generalize m / f = p at *
 generalize n % d = r at *
 generalize m % f = s at *
 have hdf:=Int.mul_pos hd hf
 have k1 : n * f = q * (d * f) + r * f:=by rw [<- e1]; grind
 have k2 : m * d = p * (d * f) + s * d:=by rw [<- e2]; grind
 have c1 : r * f < d * f:=Int.mul_lt_mul_of_pos_right a1 hf
 have c2 : s * d < d * f:=by rw [Int.mul_comm d f]; exact Int.mul_lt_mul_of_pos_right b1 hd
 have c3 : 0 <= r * f:=Int.mul_nonneg a0 (by omega)
 have c4 : 0 <= s * d:=Int.mul_nonneg b0 (by omega)
 rw [k1,k2]
 generalize r * f = x at *
 generalize s * d = y at *
 generalize d * f = z at *
 refine ⟨fun h => ?_,fun h => ?_⟩
 ·rcases Int.lt_or_gt_of_ne h with h | h
  ·have : (q + 1) * z <= p * z:=Int.mul_le_mul_of_nonneg_right (by omega) (by omega)
   rw [Int.add_mul] at this
   rw [cmp_lt h,cmp_lt (by omega)]
  ·have : (p + 1) * z <= q * z:=Int.mul_le_mul_of_nonneg_right (by omega) (by omega)
   rw [Int.add_mul] at this
   rw [cmp_gt (show p < q from h),cmp_gt (by omega)]
 ·subst h
  unfold Dg.cmp
  split <;> (try split) <;> (try split) <;> (try split) <;> omega
theorem cmp_swap (x y : Int) : Dg.cmp x y = -Dg.cmp y x:=by unfold Dg.cmp; split <;> (try split) <;> (try split) <;> omega
structure CQ where
 n : Int
 d : Int
 m : Int
 f : Int
 g : Int
abbrev zc (z : Int) : List AV:=[.bool (decide (z < 0)),lim (Dg.mag (az z))]
theorem ratcompare_int (gl : List (Nat × AV)) {N D M F : Int} (h1 : Qn N D) (h2 : Qn M F) : Spec Tryz.prog gl 116 [mkR N D,mkR M F] (.int .i64 (Dg.cmp (N * F) (M * D))):=by
 obtain ⟨hN,hD,hD0,_⟩:=h1
 obtain ⟨hM,hF,hF0,_⟩:=h2
 refine spec_fn T_ok mixed_ok 0 Tryz.func116 fn_ok116 (by kernel_rfl) ?_
 refine And.intro (by kernel_rfl) ?_
 repeat (first | refine gT ?_ | refine gF ?_ | refine brT ?_ | refine brF ?_ | refine And.intro rfl ?_)
 refine aw_loopN 6 (fun q : CQ => match q with | ⟨n,d,m,f,g⟩ => stOf [(5,.bp 2 0),(6,.bp 3 0),(7,.bp 4 0),(8,.bp 5 0),(9,.int .i64 g)] [(2,.box (zc n)),(3,.box (zc d)),(4,.box (zc m)),(5,.box (zc f))] 6)
  (fun q => (Fits q.n ∧ Fits q.d ∧ Fits q.m ∧ Fits q.f ∧ 0 < q.d ∧ 0 < q.f) ∧ (q.g = 1 ∨ q.g = -1) ∧ q.g * Dg.cmp (q.n * q.f) (q.m * q.d) = Dg.cmp (N * F) (M * D)) (fun q => q.d.toNat) ⟨N,D,M,F,1⟩ ⟨⟨hN,hD,hM,hF,hD0,hF0⟩,.inl rfl,Int.one_mul _⟩
  (.inl (le_by ⟨rfl,rfl,rfl,rfl,rfl,trivial⟩ ⟨rfl,rfl,rfl,rfl,trivial⟩ (Nat.le_refl _))) (by kernel_rfl) ?_
 generalize Dg.cmp (N * F) (M * D) = R
 clear hN hD hD0 hM hF hF0
 rintro ⟨n,d,m,f,g⟩ ⟨⟨fn,fd,fm,ff,d0,f0⟩,hg,hR⟩ P hP
 simp only at fn fd fm ff d0 f0 hg hR
 have dm1:=divmod_int gl fn fd d0
 have dm2:=divmod_int gl fm ff f0
 have fr1:=rem_fits (n:=n) d0 fd
 have fr2:=rem_fits (n:=m) f0 ff
 have r1:=Int.emod_nonneg n (by omega : d ≠ 0)
 have r2:=Int.emod_nonneg m (by omega : f ≠ 0)
 have l1:=Int.emod_lt_of_pos n d0
 have cq:=cmp_int gl (quo_fits d0 fn) (quo_fits f0 fm)
 have z1:=qzero_spec gl (decide (n % d < 0)) (Dg.mag (az (n % d)))
 have z2:=qzero_spec gl (decide (m % f < 0)) (Dg.mag (az (m % f)))
 obtain ⟨hne,heq⟩:=cmp_floor (n:=n) (m:=m) d0 f0
 have hb:=cmp_bound (n / d) (m / f)
 have hz1 : Dg.mag (az (n % d)) = [] ↔ n % d = 0:=by rw [mag_nil (az_nn _)]; unfold az; omega
 have hz2 : Dg.mag (az (m % f)) = [] ↔ m % f = 0:=by rw [mag_nil (az_nn _)]; unfold az; omega
 first | refine Exists.intro _ (And.intro (dm1) ?_) | refine Hn_by (Exists.intro _ (And.intro (dm1) ?_))
 first | refine Exists.intro _ (And.intro (dm2) ?_) | refine Hn_by (Exists.intro _ (And.intro (dm2) ?_))
 first | refine Exists.intro _ (And.intro (cq) ?_) | refine Hn_by (Exists.intro _ (And.intro (cq) ?_))
 refine brN (fun e => ?_) (fun e => ?_)
 ·have e1 : n / d ≠ m / f:=fun e2 => e (cmp_zero.2 e2)
  refine And.intro (Or.inr rfl) (int_eq ?_)
  rw [<- hR,hne e1]
  rcases hg with rfl | rfl
  ·exact w64_eq (by omega)
  ·exact w64_eq (by omega)
 ·have e1 : n / d = m / f:=cmp_zero.1 e
  have e2:=heq e1
  first | refine Exists.intro _ (And.intro (z1) ?_) | refine Hn_by (Exists.intro _ (And.intro (z1) ?_))
  by_cases hr : n % d = 0
  ·rw [decide_eq_true (hz1.2 hr)]
   repeat (first | refine gT ?_ | refine gF ?_ | refine brT ?_ | refine brF ?_)
   first | refine Exists.intro _ (And.intro (z2) ?_) | refine Hn_by (Exists.intro _ (And.intro (z2) ?_))
   repeat (first | refine gT ?_ | refine gF ?_ | refine brT ?_ | refine brF ?_)
   by_cases hs : m % f = 0
   ·rw [decide_eq_true (hz2.2 hs)]
    repeat (first | refine gT ?_ | refine gF ?_ | refine brT ?_ | refine brF ?_)
    refine And.intro (Or.inr rfl) (int_eq ?_)
    rw [<- hR,e2,hr,hs,Int.zero_mul,Int.zero_mul,cmp_eq rfl,Int.mul_zero]
   ·rw [decide_eq_false (fun e => hs (hz2.1 e))]
    repeat (first | refine gT ?_ | refine gF ?_ | refine brT ?_ | refine brF ?_)
    rw [decide_eq_true (hz1.2 hr)] at z1
    first | refine Exists.intro _ (And.intro (z1) ?_) | refine Hn_by (Exists.intro _ (And.intro (z1) ?_))
    repeat (first | refine gT ?_ | refine gF ?_ | refine brT ?_ | refine brF ?_)
    refine And.intro (Or.inr rfl) (int_eq ?_)
    rw [<- hR,e2,hr,Int.zero_mul,cmp_lt (Int.mul_pos (by omega) d0)]
    rcases hg with rfl | rfl
    ·exact w64_eq (by omega)
    ·exact w64_eq (by omega)
  ·rw [decide_eq_false (fun e => hr (hz1.1 e))]
   repeat (first | refine gT ?_ | refine gF ?_ | refine brT ?_ | refine brF ?_)
   rw [decide_eq_false (fun e => hr (hz1.1 e))] at z1
   first | refine Exists.intro _ (And.intro (z1) ?_) | refine Hn_by (Exists.intro _ (And.intro (z1) ?_))
   repeat (first | refine gT ?_ | refine gF ?_ | refine brT ?_ | refine brF ?_)
   first | refine Exists.intro _ (And.intro (z2) ?_) | refine Hn_by (Exists.intro _ (And.intro (z2) ?_))
   by_cases hs : m % f = 0
   ·rw [decide_eq_true (hz2.2 hs)]
    repeat (first | refine gT ?_ | refine gF ?_ | refine brT ?_ | refine brF ?_)
    refine And.intro (Or.inr rfl) (int_eq ?_)
    rw [<- hR,e2,hs,Int.zero_mul,cmp_gt (Int.mul_pos (by omega) f0),Int.mul_one]
   ·rw [decide_eq_false (fun e => hs (hz2.1 e))]
    repeat (first | refine gT ?_ | refine gF ?_ | refine brT ?_ | refine brF ?_)
    refine And.intro (by kernel_rfl) ?_
    refine And.intro (by kernel_rfl) ?_
    refine And.intro (by kernel_rfl) ?_
    refine And.intro (by kernel_rfl) ?_
    refine hP ⟨d,n % d,f,m % f,-g⟩ _ ?_ ⟨⟨fd,fr1,ff,fr2,show 0 < n % d by omega,show 0 < m % f by omega⟩,show -g = 1 ∨ -g = -1 by omega,?_⟩ ?_
    ·refine leC_by ⟨⟨rfl,rfl⟩,⟨rfl,rfl⟩,⟨rfl,rfl⟩,⟨rfl,rfl⟩,⟨int_eq ?_,rfl⟩,trivial⟩ ⟨⟨⟨rfl,rfl⟩,rfl⟩,⟨⟨rfl,rfl⟩,rfl⟩,⟨⟨rfl,rfl⟩,rfl⟩,⟨⟨rfl,rfl⟩,rfl⟩,trivial⟩ (Nat.le_refl _)
     rcases hg with rfl | rfl
     ·exact w64_eq (by omega)
     ·exact w64_eq (by omega)
    ·show -g * Dg.cmp (d * (m % f)) (f * (n % d)) = R
     rw [<- hR,e2,cmp_swap (n % d * f),Int.mul_comm d,Int.mul_comm f]
     rw [Int.neg_mul,Int.mul_neg]
    ·show (n % d).toNat < d.toNat
     omega
theorem ratcmp_int (gl : List (Nat × AV)) {n d m f : Int} (h1 : Qn n d) (h2 : Qn m f) : Spec Tryz.prog gl 80 [mkR n d,mkR m f] (.tup [.int .i64 (Dg.cmp (n * f) (m * d)),.int .i64 0]):=by
 have s:=all_spec gl (ratvalid_int gl h1.1 h1.2.1 h1.2.2.1 h1.2.2.2) (ratvalid_int gl h2.1 h2.2.1 h2.2.2.1 h2.2.2.2)
 have c:=ratcompare_int gl h1 h2
 refine spec_fn T_ok mixed_ok 0 Tryz.func80 fn_ok80 (by kernel_rfl) ?_
 refine And.intro (Nat.le_refl 2) (Exists.intro _ (And.intro s ?_))
 repeat (first | refine gT ?_ | refine gF ?_ | refine brT ?_ | refine brF ?_)
 first | refine Exists.intro _ (And.intro (c) ?_) | refine Hn_by (Exists.intro _ (And.intro (c) ?_))
 exact And.intro (Or.inr rfl) rfl
theorem dvd_cop {d n f : Int} (h : d ∣ n * f) (g : Int.gcd d n = 1) : d ∣ f:=by
 have h1 : d.natAbs ∣ f.natAbs * n.natAbs:=by rw [<- Int.natAbs_mul,Int.mul_comm]; exact Int.natAbs_dvd_natAbs.2 h
 exact Int.natAbs_dvd_natAbs.1 (Nat.Coprime.dvd_of_dvd_mul_right g h1)
theorem cross_eq {n d m f : Int} (h1 : Qn n d) (h2 : Qn m f) (h : n * f = m * d) : n = m ∧ d = f:=by
 obtain ⟨_,_,d0,g1⟩:=h1
 obtain ⟨_,_,f0,g2⟩:=h2
 have a : d ∣ f:=by
  have : d ∣ n * f:=⟨m,by rw [h,Int.mul_comm]⟩
  exact dvd_cop this (by rw [Int.gcd_comm]; exact g1)
 have b : f ∣ d:=by
  have : f ∣ m * d:=⟨n,by rw [<- h,Int.mul_comm]⟩
  exact dvd_cop this (by rw [Int.gcd_comm]; exact g2)
 have e : d = f:=Int.dvd_antisymm (by omega) (by omega) a b
 subst e
 exact ⟨Int.eq_of_mul_eq_mul_right (by omega) h,rfl⟩
theorem cmp_same {n d m f : Int} (h1 : Qn n d) (h2 : Qn m f) : Dg.cmp (n * f) (m * d) = 0 ↔ qr n d = qr m f:=by
 rw [cmp_zero]
 refine ⟨fun h => ?_,fun h => ?_⟩
 ·obtain ⟨rfl,rfl⟩:=cross_eq h1 h2 h
  rfl
 ·obtain ⟨rfl,rfl⟩:=qr_inj h
  rfl
end Ab
