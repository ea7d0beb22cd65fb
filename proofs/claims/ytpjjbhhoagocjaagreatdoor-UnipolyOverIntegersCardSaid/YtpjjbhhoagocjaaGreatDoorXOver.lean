import Derived.Test.YtpjjbhhoagocjaaGreatDoorXEval
import Derived.Test.YtpjjbhhoagocjaaGreatDoorXSane03
open Go Go.Proofs
namespace Ab
set_option maxRecDepth 100000
set_option maxHeartbeats 1000000
theorem ratmake_int (gl : List (Nat × AV)) {n d : Int} (hn : Fits n) (hd : Fits d) (h2 : 0 < d) : Spec Tryz.prog gl 31 [mkZ n,mkZ d] (.tup [mkR (n / Int.gcd n d) (d / Int.gcd n d),.int .i64 0]):=by
 have v1:=valid_int gl hn
 have v2:=valid_int gl hd
 have rd:=reduceq_int gl hn hd h2
 have g0:=gcd_pos (n:=n) h2
 have dv:=Int.gcd_dvd_right n d
 generalize (Int.gcd n d : Int) = g at *
 have q0 : 0 < d / g:=Int.ediv_pos_of_pos_of_dvd h2 (by omega) dv
 have f1:=fresh_spec gl (decide (n / g < 0)) (Dg.mag (az (n / g))) (Nat.le_trans (quo_fits g0 hn) (by decide))
 have f2:=fresh_spec gl (decide (d / g < 0)) (Dg.mag (az (d / g))) (Nat.le_trans (quo_fits g0 hd) (by decide))
 have s3:=qzero_spec gl false (Dg.mag d)
 rw [decide_eq_false (fun e => by have:=(mag_nil (n:=d) (by omega)).1 e; omega)] at s3
 rw [mkZ_nn (a:=d) (by omega)] at v2 rd ⊢
 exact make_walk gl v1 v2 s3 rd f1 f2
def horI (c : Nat -> Int) (n : Nat) (k : Int) : Nat -> Int
 | 0 => 0
 | t + 1 => horI c n k t * k + c (n - 1 - t)
theorem hor_int {p : List Rat} {c : Nat -> Int} (hc : ∀ i,cf p i = (c i : Rat)) (k : Int) : ∀ t,hor p (k : Rat) t = (horI c p.length k t : Rat)
 | 0 => rfl
 | t + 1 => by
  show hor p (k : Rat) t * (k : Rat) + cf p (p.length - 1 - t) = ((horI c p.length k t * k + c (p.length - 1 - t) : Int) : Rat)
  rw [hor_int hc k t,hc,Rat.intCast_add,Rat.intCast_mul]
theorem horI_le {c : Nat -> Int} (hc : ∀ i,(c i).natAbs <= 50) {k : Int} (hk : k.natAbs <= 1000) (n : Nat) : ∀ t,(horI c n k t).natAbs <= 50 * 1001 ^ t - 50
 | 0 => Nat.zero_le _
 | t + 1 => by
  show (horI c n k t * k + c (n - 1 - t)).natAbs <= _
  have ih:=horI_le hc hk n t
  have h1 : (horI c n k t * k).natAbs <= (50 * 1001 ^ t - 50) * 1000:=by rw [Int.natAbs_mul]; exact Nat.mul_le_mul ih hk
  have h2:=hc (n - 1 - t)
  have h3:=Int.natAbs_add_le (horI c n k t * k) (c (n - 1 - t))
  have h4 : 1 <= 1001 ^ t:=Nat.pow_pos (by decide)
  have h5 : (1001 : Nat) ^ (t + 1) = 1001 ^ t * 1001:=Nat.pow_succ ..
  omega
theorem resZ_fit {z : Int} (h : Fits z) : resZ z = .tup [mkZ z,.int .i64 0]:=if_neg (by have:=fits_len h; omega)
theorem over_walk {l : List Int} {n : Int} {p : List Rat} {c : Nat -> Int} (hn : I64 n) (lp65 : p.length <= 65) (hc : ∀ i,cf p i = (c i : Rat))
  (sa : Spec Tryz.prog [] 14 [] (.bool true))
  (pa : Spec Tryz.prog [] 15 [.sl (irows .i64 l),.int .i64 20] (polyV p))
  (fm : ∀ t,t < p.length -> Fits (horI c p.length (pickU n 2001 - 1000) t) ∧ Fits (horI c p.length (pickU n 2001 - 1000) t * (pickU n 2001 - 1000)) ∧ Fits (c (p.length - 1 - t)) ∧ Fits (horI c p.length (pickU n 2001 - 1000) (t + 1)))
  (ff : Fits (horI c p.length (pickU n 2001 - 1000) p.length))
  (el : Spec Tryz.prog [] 30 [polyV p,rV ((pickU n 2001 - 1000 : Int) : Rat)] (.tup [rV (horI c p.length (pickU n 2001 - 1000) p.length : Rat),.int .i64 0])) :
  Spec Tryz.prog [] 5 [.sl (irows .i64 l),.int .i64 n] (.bool true):=by
 have pk:=pick_uni [] (x:=n) (n:=2001) hn.1 hn.2 (by decide)
 have bd:=pickU_bd (x:=n) (n:=2001) (by decide)
 obtain ⟨k,hk⟩ : ∃ k,k = pickU n 2001 - 1000:=⟨_,rfl⟩
 have wk : w64 (pickU n 2001 - 1000) = k:=by rw [w64_eq (by omega),hk]
 rw [<- hk] at fm ff el
 have nb:=number_spec [] (n:=k) (by omega) (by omega)
 have o0 : Spec Tryz.prog [] 27 [.int .i64 0] (mkZ 0):=Of_spec [] 0 (by decide) (by decide)
 have o1 : Spec Tryz.prog [] 27 [.int .i64 1] (mkZ 1):=Of_spec [] 1 (by decide) (by decide)
 have ok:=Of_spec [] k (by omega) (by omega)
 have mk:=ratmake_int [] ff (d:=1) (fits_i64 (by decide) (by decide)) (by decide)
 rw [rV_int] at mk
 have sr:=sameRat_spec [] (a:=(horI c p.length k p.length : Rat)) (b:=(horI c p.length k p.length : Rat)) ⟨by rw [Rat.num_intCast]; exact ff,by rw [Rat.den_intCast]; exact fits_i64 (by decide) (by decide)⟩
 rw [decide_eq_true rfl] at sr
 have lp:=poly_len p
 unfold rV rv at nb el mk sr
 refine spec_fn T_ok mixed_ok 0 Tryz.func5 fn_ok5 (by kernel_rfl) ?_
 first | refine Exists.intro _ (And.intro (sa) ?_) | refine Hn_by (Exists.intro _ (And.intro (sa) ?_))
 repeat (first | refine gT ?_ | refine gF ?_ | refine brT ?_ | refine brF ?_)
 first | refine Exists.intro _ (And.intro (pa) ?_) | refine Hn_by (Exists.intro _ (And.intro (pa) ?_))
 first | refine Exists.intro _ (And.intro (pk) ?_) | refine Hn_by (Exists.intro _ (And.intro (pk) ?_))
 first | refine Exists.intro _ (And.intro (o0) ?_) | refine Hn_by (Exists.intro _ (And.intro (o0) ?_))
 refine aw_loopN 1 (fun t : Nat => stOf [(5,polyV p),(6,.int .i64 k),(7,.bp 0 0),(8,.int .i64 (((p.length - t : Nat) : Int) - 1))] [(0,.box [.bool (decide (horI c p.length k t < 0)),lim (Dg.mag (az (horI c p.length k t)))])] 1) (fun t => t <= p.length) (fun t => p.length - t) 0 (Nat.zero_le _)
  (.inl (le_by ⟨rfl,int_eq wk,rfl,int_eq ?_,trivial⟩ ⟨rfl,trivial⟩ (show 1 <= 1 by decide))) (by kernel_rfl) ?_
 ·show w64 (((p.map rv).length : Int) - 1) = _
  rw [lp,w64_eq (by omega),Nat.sub_zero]
 intro t ht P hP
 refine br (fun g => ?_) (fun g => ?_)
 ·have g : t < p.length:=by have : ((p.length - t : Nat) : Int) - 1 ≥ 0:=g; omega
  obtain ⟨f1,f2,f3,f4⟩:=fm t g
  have e1 : ((p.length - t : Nat) : Int) - 1 = ((p.length - 1 - t : Nat) : Int):=by omega
  have mu:=mul_int [] f1 (fits_i64 (n:=k) (by omega) (by omega))
  rw [resZ_fit f2] at mu
  have en : (cf p (p.length - 1 - t)).num = c (p.length - 1 - t):=by rw [hc]; exact Rat.num_intCast _
  have ad:=add_int [] f2 (en ▸ f3)
  have eh : horI c p.length k t * k + (cf p (p.length - 1 - t)).num = horI c p.length k (t + 1):=by rw [en]; rfl
  rw [eh,resZ_fit f4] at ad
  rw [e1]
  repeat (first | refine gT ?_ | refine gF ?_ | refine brT ?_ | refine brF ?_)
  refine And.intro (by kernel_rfl) ?_
  repeat (first | refine gT ?_ | refine gF ?_ | refine brT ?_ | refine brF ?_ | refine And.intro rfl ?_)
  first | refine Exists.intro _ (And.intro (ok) ?_) | refine Hn_by (Exists.intro _ (And.intro (ok) ?_))
  repeat (first | refine gT ?_ | refine gF ?_ | refine brT ?_ | refine brF ?_ | refine And.intro rfl ?_)
  first | refine Exists.intro _ (And.intro (mu) ?_) | refine Hn_by (Exists.intro _ (And.intro (mu) ?_))
  repeat (first | refine gT ?_ | refine gF ?_ | refine brT ?_ | refine brF ?_ | refine And.intro rfl ?_)
  refine And.intro (Int.natCast_nonneg _) (Exists.intro _ (And.intro (idx_nat rfl (by omega)) ?_))
  repeat (first | refine gT ?_ | refine gF ?_ | refine brT ?_ | refine brF ?_ | refine And.intro rfl ?_)
  first | refine Exists.intro _ (And.intro (ad) ?_) | refine Hn_by (Exists.intro _ (And.intro (ad) ?_))
  repeat (first | refine gT ?_ | refine gF ?_ | refine brT ?_ | refine brF ?_ | refine And.intro rfl ?_)
  repeat (first | refine gT ?_ | refine gF ?_ | refine brT ?_ | refine brF ?_)
  refine hP (t + 1) _ (leC_by ⟨⟨rfl,rfl⟩,⟨rfl,rfl⟩,⟨rfl,rfl⟩,⟨int_eq ?_,rfl⟩,trivial⟩ ⟨⟨⟨rfl,rfl⟩,rfl⟩,trivial⟩ (Nat.le_refl _)) (by omega) (by omega)
  show w64 (((p.length - 1 - t : Nat) : Int) - 1) = _
  rw [w64_eq (by omega)]; omega
 ·have g : t = p.length:=by have : ¬ ((p.length - t : Nat) : Int) - 1 ≥ 0:=g; omega
  subst g
  clear hP
  repeat (first | refine gT ?_ | refine gF ?_ | refine brT ?_ | refine brF ?_)
  first | refine Exists.intro _ (And.intro (nb) ?_) | refine Hn_by (Exists.intro _ (And.intro (nb) ?_))
  first | refine Exists.intro _ (And.intro (el) ?_) | refine Hn_by (Exists.intro _ (And.intro (el) ?_))
  repeat (first | refine gT ?_ | refine gF ?_ | refine brT ?_ | refine brF ?_)
  refine And.intro (by kernel_rfl) ?_
  repeat (first | refine gT ?_ | refine gF ?_ | refine brT ?_ | refine brF ?_ | refine And.intro rfl ?_)
  first | refine Exists.intro _ (And.intro (o1) ?_) | refine Hn_by (Exists.intro _ (And.intro (o1) ?_))
  repeat (first | refine gT ?_ | refine gF ?_ | refine brT ?_ | refine brF ?_ | refine And.intro rfl ?_)
  first | refine Exists.intro _ (And.intro (mk) ?_) | refine Hn_by (Exists.intro _ (And.intro (mk) ?_))
  repeat (first | refine gT ?_ | refine gF ?_ | refine brT ?_ | refine brF ?_ | refine And.intro rfl ?_)
  repeat (first | refine gT ?_ | refine gF ?_ | refine brT ?_ | refine brF ?_)
  first | refine Exists.intro _ (And.intro (sr) ?_) | refine Hn_by (Exists.intro _ (And.intro (sr) ?_))
  repeat (first | refine gT ?_ | refine gF ?_ | refine brT ?_ | refine brF ?_)
  exact And.intro (Or.inr rfl) rfl
theorem over_law (l : List Int) (hl : l.length <= maxLen) (il : ∀ x ∈ l,I64 x) (n : Int) (wn : (Lit.int .i64 n).wf = true) :
  Spec Tryz.prog [] 5 [.sl (irows .i64 l),.int .i64 n] (.bool true):=by
 have hn : I64 n:=by
  simp only [Lit.wf,Bool.and_eq_true,decide_eq_true_eq] at wn
  exact wn
 have p:=pb_poly l 20
 have pl:=p.l
 have hc:=cf_polyQ l 20
 have hcn:=coefs_nat l 20
 have bd:=pickU_bd (x:=n) (n:=2001) (by decide)
 generalize hk : pickU n 2001 - 1000 = k
 have k1 : k.natAbs <= 1000:=by omega
 have hb:=fun t => horI_le (c:=fun i => (coefs l 20).getD i 0) hcn k1 (polyQ l 20).length t
 have h50 : ∀ t,t <= 20 -> 50 * 1001 ^ t - 50 <= 50 * 1001 ^ 20:=fun t ht => Nat.le_trans (Nat.sub_le _ _) (Nat.mul_le_mul_left _ (Nat.pow_le_pow_right (by decide) ht))
 have hi:=hor_int (p:=polyQ l 20) (c:=fun i => (coefs l 20).getD i 0) hc k
 have ft : ∀ t,t <= 20 -> (horI (fun i => (coefs l 20).getD i 0) (polyQ l 20).length k t).natAbs <= 50 * 1001 ^ 20:=fun t ht => Nat.le_trans (hb t) (h50 t ht)
 have fz : ∀ t,t <= 20 -> Fits (horI (fun i => (coefs l 20).getD i 0) (polyQ l 20).length k t):=fun t ht => fits_sz (Nat.le_trans (ft t ht) (by decide +kernel))
 have ok : EvOk (polyQ l 20) (k : Rat):=⟨fun t ht => by
  rw [hi]
  exact bd_fm (bd_int (ft t (by omega))) (bd_int k1) (by decide +kernel),fun t ht => by
  rw [hi]
  exact bd_fa ((bd_int (ft t (by omega))).mul (bd_int k1)) (p.b _) (by decide +kernel)⟩
 have el:=Eval_spec [] (p.poly (by decide +kernel) (by decide)) ((bd_int k1).rf (by decide +kernel)) ok
 rw [hi] at el
 have w:=over_walk (l:=l) (n:=n) (p:=polyQ l 20) (c:=fun i => (coefs l 20).getD i 0) hn (by omega) hc sane_spec (lawPoly_pb [] il hl (n:=20) (by decide))
 rw [hk] at w
 refine w (fun t ht => ⟨fz t (by omega),fits_sz (Nat.le_trans (show _ <= 50 * 1001 ^ 20 * 1000 from ?_) (by decide +kernel)),fits_sz (Nat.le_trans (hcn _) (by decide +kernel)),fz (t + 1) (by omega)⟩) (fz _ (by omega)) el
 rw [Int.natAbs_mul]
 exact Nat.mul_le_mul (ft t (by omega)) k1
end Ab
