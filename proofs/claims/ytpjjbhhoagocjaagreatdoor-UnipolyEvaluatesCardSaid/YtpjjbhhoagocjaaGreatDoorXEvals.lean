import Derived.Test.YtpjjbhhoagocjaaGreatDoorXDerives
import Derived.Test.YtpjjbhhoagocjaaGreatDoorXDivision
open Go Go.Proofs
namespace Ab
set_option maxRecDepth 100000
set_option maxHeartbeats 1000000
def rp (x : Rat) : Nat -> Rat
 | 0 => 1
 | i + 1 => rp x i * x
def hv (f : Nat -> Rat) (x : Rat) (n : Nat) : Rat:=psum n fun i => f i * rp x i
theorem hv_front (f : Nat -> Rat) (x : Rat) (n : Nat) : hv f x (n + 1) = hv (shf f) x n * x + f 0:=by
 unfold hv
 rw [psum_front,psum_dist]
 have : psum n (shf fun i => f i * rp x i) = psum n fun i => shf f i * rp x i * x:=psum_congr fun i _ => by
  show f (i + 1) * (rp x i * x) = f (i + 1) * rp x i * x
  rw [Rat.mul_assoc]
 rw [this,Rat.add_comm]
 show _ + f 0 * 1 = _
 rw [Rat.mul_one]
theorem hv_more {f : Nat -> Rat} {x : Rat} {n m : Nat} (h : n <= m) (hz : ∀ i,n <= i -> f i = 0) : hv f x m = hv f x n:=psum_more h fun i h1 _ => by rw [hz i h1,Rat.zero_mul]
theorem hv_add (f g : Nat -> Rat) (x : Rat) (n : Nat) : hv (fun i => f i + g i) x n = hv f x n + hv g x n:=by
 unfold hv
 rw [<- psum_add]
 exact psum_congr fun i _ => Rat.add_mul ..
theorem hv_scale (c : Rat) (f : Nat -> Rat) (x : Rat) (n : Nat) : hv (fun i => c * f i) x n = c * hv f x n:=by
 unfold hv
 rw [<- psum_mul]
 exact psum_congr fun i _ => Rat.mul_assoc ..
theorem hv_cnv {g : Nat -> Rat} {x : Rat} {m : Nat} (hg : ∀ i,m <= i -> g i = 0) : ∀ {n : Nat} {f : Nat -> Rat} {N : Nat},(∀ i,n <= i -> f i = 0) -> n + m <= N -> hv (cnv f g) x N = hv f x n * hv g x m
 | 0,f,N,hf,_ => by
  have : hv (cnv f g) x N = 0:=psum_zero fun i _ => by
   rw [show cnv f g i = 0 from psum_zero fun j _ => by rw [hf j (Nat.zero_le _),Rat.zero_mul],Rat.zero_mul]
  rw [this]
  exact (Rat.zero_mul _).symm
 | n + 1,f,N,hf,hN => by
  obtain ⟨N',rfl⟩ : ∃ N',N = N' + 1:=⟨N - 1,by omega⟩
  rw [hv_front,hv_front]
  have e : shf (cnv f g) = fun i => f 0 * shf g i + cnv (shf f) g i:=funext fun i => cnv_front f g i
  rw [e,hv_add (fun i => f 0 * shf g i) (cnv (shf f) g),hv_scale (f 0) (shf g),hv_cnv hg (n:=n) (f:=shf f) (fun i hi => hf (i + 1) (by omega)) (by omega),cnv_zero]
  have eg : hv g x m = hv (shf g) x N' * x + g 0:=by rw [<- hv_front,hv_more (n:=m) (m:=N' + 1) (by omega) hg]
  rw [eg]
  grind
theorem hor_hv (p : List Rat) (x : Rat) : ∀ t,t <= p.length -> hor p x t = hv (fun i => cf p (p.length - t + i)) x t
 | 0,_ => rfl
 | t + 1,ht => by
  show hor p x t * x + cf p (p.length - 1 - t) = _
  rw [hv_front,hor_hv p x t (by omega)]
  have e : (shf fun i => cf p (p.length - (t + 1) + i)) = fun i => cf p (p.length - t + i):=funext fun i => by
   show cf p (p.length - (t + 1) + (i + 1)) = _
   rw [show p.length - (t + 1) + (i + 1) = p.length - t + i by omega]
  rw [e]
  show _ = _ + cf p (p.length - (t + 1) + 0)
  rw [show p.length - (t + 1) + 0 = p.length - 1 - t by omega]
def vl (x : Rat) (p : List Rat) : Rat:=hor p x p.length
theorem vl_hv (x : Rat) (p : List Rat) {N : Nat} (h : p.length <= N) : vl x p = hv (cf p) x N:=by
 unfold vl
 rw [hor_hv p x _ (Nat.le_refl _),hv_more h fun i hi => cf_out hi]
 have : (fun i => cf p (p.length - p.length + i)) = cf p:=funext fun i => by rw [Nat.sub_self,Nat.zero_add]
 rw [this]
theorem vl_add (x : Rat) (p q : List Rat) : vl x (addP p q) = vl x p + vl x q:=by
 have h:=merge_len (fun j => cf p j + cf q j) p q
 rw [vl_hv x (addP p q) (N:=max p.length q.length) h,vl_hv x p (N:=max p.length q.length) (by omega),vl_hv x q (N:=max p.length q.length) (by omega),<- hv_add]
 congr 1
 exact funext fun i => cf_addP p q i
theorem vl_mul (x : Rat) (p q : List Rat) : vl x (mulP p q) = vl x p * vl x q:=by
 have h:=mulP_len p q
 rw [vl_hv x (mulP p q) (N:=p.length + q.length) (by omega),vl_hv x p (Nat.le_refl _),vl_hv x q (Nat.le_refl _),show cf (mulP p q) = cnv (cf p) (cf q) from funext fun i => cf_mulP p q i]
 exact hv_cnv (fun i hi => cf_out hi) (fun i hi => cf_out hi) (Nat.le_refl _)
theorem vl_one (x c : Rat) : vl x (clipP [c]) = c:=by
 rw [vl_hv x (clipP [c]) (N:=1) (clip_len [c]),show cf (clipP [c]) = cf [c] from funext fun i => cf_clip [c] i]
 show (0 : Rat) + c * 1 = c
 rw [Rat.zero_add,Rat.mul_one]
theorem vl_cmp (x : Rat) (p q : List Rat) : ∀ t,vl x (cmp p q t) = hor p (vl x q) t
 | 0 => rfl
 | t + 1 => by
  show vl x (addP (mulP (cmp p q t) q) (clipP [cf p (p.length - 1 - t)])) = hor p (vl x q) t * vl x q + cf p (p.length - 1 - t)
  rw [vl_add,vl_mul,vl_one,vl_cmp x p q t]
theorem vl_lin (k : Int) : vl (k : Rat) (lin k) = 0:=by
 show ((0 : Rat) * (k : Rat) + ((1 : Int) : Rat)) * (k : Rat) + ((-k : Int) : Rat) = 0
 rw [Rat.zero_mul,Rat.zero_add,Rat.intCast_neg]
 show (1 : Rat) * (k : Rat) + -(k : Rat) = 0
 grind
theorem hor_bd {N M E e : Nat} {p : List Rat} {x : Rat} (hp : BdL 1 N p) (hx : Bd e M x) (he : e <= E) : ∀ t,Bd (e ^ t) (N * (M + E + 1) ^ t) (hor p x t)
 | 0 => bd_zero (Nat.pow_pos hx.1)
 | t + 1 => by
  have ih:=hor_bd hp hx he t
  have c:=(hp (p.length - 1 - t)).wide (e ^ t * e) (Nat.mul_pos (Nat.pow_pos hx.1) hx.1)
  rw [Nat.one_mul] at c
  have s:=(ih.mul hx).add c
  have e0 : hor p x (t + 1) = hor p x t * x + cf p (p.length - 1 - t):=rfl
  rw [e0,Nat.pow_succ]
  refine s.mono ?_
  have h1 : e ^ t <= (M + E + 1) ^ t:=Nat.pow_le_pow_left (by omega) t
  have h2 : N * (e ^ t * e) <= N * ((M + E + 1) ^ t * E):=Nat.mul_le_mul_left _ (Nat.mul_le_mul h1 he)
  have h3 : N * (M + E + 1) ^ (t + 1) = N * (M + E + 1) ^ t * M + N * ((M + E + 1) ^ t * E) + N * (M + E + 1) ^ t:=by
   rw [Nat.pow_succ]; grind
  omega
theorem Eval_pb (gl : List (Nat × AV)) {N n M E e : Nat} {p : List Rat} {x : Rat} (hp : PB 1 N n p) (hn : n <= 65) (hx : Bd e M x) (he : e <= E) (h1 : (N * (M + E + 1) ^ n + E ^ n) * (M + E) <= SZ) (h2 : (N * (M + E + 1) ^ n * M + E ^ n * E) * (N + 1) <= SZ) : Spec Tryz.prog gl 30 [polyV p,rV x] (.tup [rV (vl x p),.int .i64 0]):=by
 have e0:=hx.1
 have hl:=hp.l
 have m1 : ∀ t,t < p.length -> N * (M + E + 1) ^ t <= N * (M + E + 1) ^ n:=fun t ht => Nat.mul_le_mul_left _ (Nat.pow_le_pow_right (by omega) (by omega))
 have m2 : ∀ t,t < p.length -> e ^ t <= E ^ n:=fun t ht => Nat.le_trans (Nat.pow_le_pow_left he t) (Nat.pow_le_pow_right (by omega) (by omega))
 have hE : 0 < E ^ n:=Nat.pow_pos (by omega)
 obtain ⟨_,s1,_⟩:=sz_all h1 hE (by omega)
 obtain ⟨_,s2,_⟩:=sz_all h2 (Nat.mul_pos hE (by omega)) (by decide)
 refine Eval_spec gl (hp.poly s2 hn) (hx.rf (by omega)) ⟨fun t ht => ?_,fun t ht => ?_⟩
 ·exact bd_fm (hor_bd hp.b hx he t) hx (sz_mono h1 (Nat.add_le_add (m1 t ht) (m2 t ht)) (by omega))
 ·exact bd_fa ((hor_bd hp.b hx he t).mul hx) (hp.b _) (sz_mono h2 (Nat.add_le_add (Nat.mul_le_mul_right _ (m1 t ht)) (Nat.mul_le_mul (m2 t ht) he)) (Nat.le_refl _))
theorem vl_bd {N n M E e : Nat} {p : List Rat} {x : Rat} (hp : PB 1 N n p) (hx : Bd e M x) (he : e <= E) : ∃ d,d <= E ^ n ∧ Bd d (N * (M + E + 1) ^ n) (vl x p):=by
 have e0:=hx.1
 refine ⟨e ^ p.length,Nat.le_trans (Nat.pow_le_pow_left he _) (Nat.pow_le_pow_right (by omega) hp.l),(hor_bd hp.b hx he _).mono (Nat.mul_le_mul_left _ (Nat.pow_le_pow_right (by omega) hp.l))⟩
theorem evals_walk {l m : List Int} {n d : Int} {P Q SU PR CO R A0 : List Rat} {k : Int} {x a b v w y su pr inn va : Rat} (hn : I64 n) (hd : I64 d) (hk : k = pickU n 61 - 30)
  (sa : Spec Tryz.prog [] 14 [] (.bool true))
  (pa : Spec Tryz.prog [] 15 [.sl (irows .i64 l),.int .i64 5] (polyV P))
  (pb : Spec Tryz.prog [] 15 [.sl (irows .i64 m),.int .i64 5] (polyV Q))
  (of : Spec Tryz.prog [] 41 [.int .i64 k,.int .i64 (1 + pickU d 12)] (.tup [rV x,.int .i64 0]))
  (ea : Spec Tryz.prog [] 30 [polyV P,rV x] (.tup [rV a,.int .i64 0]))
  (eb : Spec Tryz.prog [] 30 [polyV Q,rV x] (.tup [rV b,.int .i64 0]))
  (ps : Spec Tryz.prog [] 33 [polyV P,polyV Q] (.tup [polyV SU,.int .i64 0]))
  (pm : Spec Tryz.prog [] 16 [polyV P,polyV Q] (.tup [polyV PR,.int .i64 0]))
  (pc : Spec Tryz.prog [] 37 [polyV P,polyV Q] (.tup [polyV CO,.int .i64 0]))
  (ev : Spec Tryz.prog [] 30 [polyV SU,rV x] (.tup [rV v,.int .i64 0]))
  (ew : Spec Tryz.prog [] 30 [polyV PR,rV x] (.tup [rV w,.int .i64 0]))
  (ey : Spec Tryz.prog [] 30 [polyV CO,rV x] (.tup [rV y,.int .i64 0]))
  (ad : Spec Tryz.prog [] 42 [rV a,rV b] (.tup [rV su,.int .i64 0]))
  (mu : Spec Tryz.prog [] 24 [rV a,rV b] (.tup [rV pr,.int .i64 0]))
  (ei : Spec Tryz.prog [] 30 [polyV P,rV b] (.tup [rV inn,.int .i64 0]))
  (s1 : Spec Tryz.prog [] 18 [rV v,rV su] (.bool true))
  (s2 : Spec Tryz.prog [] 18 [rV w,rV pr] (.bool true))
  (s3 : Spec Tryz.prog [] 18 [rV y,rV inn] (.bool true))
  (ln : Spec Tryz.prog [] 22 [.int .i64 k] (polyV (lin k)))
  (dv : Spec Tryz.prog [] 32 [polyV P,polyV (lin k)] (.tup [polyV A0,polyV R,.int .i64 0]))
  (nb : Spec Tryz.prog [] 19 [.int .i64 k] (rV (k : Rat)))
  (ek : Spec Tryz.prog [] 30 [polyV P,rV (k : Rat)] (.tup [rV va,.int .i64 0]))
  (sg : Spec Tryz.prog [] 26 [rV va] (.int .i64 (sgR va)))
  (hz : va = 0 -> R = [])
  (hs : va ≠ 0 -> Spec Tryz.prog [] 20 [polyV R,polyV [va]] (.bool true)) :
  Spec Tryz.prog [] 11 [.sl (irows .i64 l),.sl (irows .i64 m),.int .i64 n,.int .i64 d] (.bool true):=by
 have pk:=pick_uni [] (x:=n) (n:=61) hn.1 hn.2 (by decide)
 have pd:=pick_uni [] (x:=d) (n:=12) hd.1 hd.2 (by decide)
 have b1:=pickU_bd (x:=n) (n:=61) (by decide)
 have b2:=pickU_bd (x:=d) (n:=12) (by decide)
 have w1 : w64 (pickU n 61 - 30) = k:=by rw [w64_eq (by omega),hk]
 have w2 : w64 (1 + pickU d 12) = 1 + pickU d 12:=w64_eq (by omega)
 rw [<- w2] at of
 rw [show AV.int .i64 k = AV.int .i64 (w64 (pickU n 61 - 30)) by rw [w1]] at of ln nb
 generalize lin k = L at ln dv
 generalize ((k : Int) : Rat) = kr at nb ek
 unfold rV rv at of ea eb ev ew ey ad mu ei s1 s2 s3 nb ek sg
 refine spec_fn T_ok mixed_ok 0 Tryz.func11 fn_ok11 (by kernel_rfl) ?_
 first | refine Exists.intro _ (And.intro (sa) ?_) | refine Hn_by (Exists.intro _ (And.intro (sa) ?_))
 repeat (first | refine gT ?_ | refine gF ?_ | refine brT ?_ | refine brF ?_)
 first | refine Exists.intro _ (And.intro (pa) ?_) | refine Hn_by (Exists.intro _ (And.intro (pa) ?_))
 first | refine Exists.intro _ (And.intro (pb) ?_) | refine Hn_by (Exists.intro _ (And.intro (pb) ?_))
 first | refine Exists.intro _ (And.intro (pk) ?_) | refine Hn_by (Exists.intro _ (And.intro (pk) ?_))
 first | refine Exists.intro _ (And.intro (pd) ?_) | refine Hn_by (Exists.intro _ (And.intro (pd) ?_))
 first | refine Exists.intro _ (And.intro (of) ?_) | refine Hn_by (Exists.intro _ (And.intro (of) ?_))
 repeat (first | refine gT ?_ | refine gF ?_ | refine brT ?_ | refine brF ?_)
 first | refine Exists.intro _ (And.intro (ea) ?_) | refine Hn_by (Exists.intro _ (And.intro (ea) ?_))
 repeat (first | refine gT ?_ | refine gF ?_ | refine brT ?_ | refine brF ?_)
 first | refine Exists.intro _ (And.intro (eb) ?_) | refine Hn_by (Exists.intro _ (And.intro (eb) ?_))
 repeat (first | refine gT ?_ | refine gF ?_ | refine brT ?_ | refine brF ?_)
 first | refine Exists.intro _ (And.intro (ps) ?_) | refine Hn_by (Exists.intro _ (And.intro (ps) ?_))
 first | refine Exists.intro _ (And.intro (pm) ?_) | refine Hn_by (Exists.intro _ (And.intro (pm) ?_))
 first | refine Exists.intro _ (And.intro (pc) ?_) | refine Hn_by (Exists.intro _ (And.intro (pc) ?_))
 first | refine Exists.intro _ (And.intro (ev) ?_) | refine Hn_by (Exists.intro _ (And.intro (ev) ?_))
 repeat (first | refine gT ?_ | refine gF ?_ | refine brT ?_ | refine brF ?_)
 first | refine Exists.intro _ (And.intro (ew) ?_) | refine Hn_by (Exists.intro _ (And.intro (ew) ?_))
 repeat (first | refine gT ?_ | refine gF ?_ | refine brT ?_ | refine brF ?_)
 first | refine Exists.intro _ (And.intro (ey) ?_) | refine Hn_by (Exists.intro _ (And.intro (ey) ?_))
 repeat (first | refine gT ?_ | refine gF ?_ | refine brT ?_ | refine brF ?_)
 first | refine Exists.intro _ (And.intro (ad) ?_) | refine Hn_by (Exists.intro _ (And.intro (ad) ?_))
 repeat (first | refine gT ?_ | refine gF ?_ | refine brT ?_ | refine brF ?_)
 first | refine Exists.intro _ (And.intro (mu) ?_) | refine Hn_by (Exists.intro _ (And.intro (mu) ?_))
 repeat (first | refine gT ?_ | refine gF ?_ | refine brT ?_ | refine brF ?_)
 first | refine Exists.intro _ (And.intro (ei) ?_) | refine Hn_by (Exists.intro _ (And.intro (ei) ?_))
 repeat (first | refine gT ?_ | refine gF ?_ | refine brT ?_ | refine brF ?_)
 first | refine Exists.intro _ (And.intro (s1) ?_) | refine Hn_by (Exists.intro _ (And.intro (s1) ?_))
 repeat (first | refine gT ?_ | refine gF ?_ | refine brT ?_ | refine brF ?_)
 first | refine Exists.intro _ (And.intro (s2) ?_) | refine Hn_by (Exists.intro _ (And.intro (s2) ?_))
 repeat (first | refine gT ?_ | refine gF ?_ | refine brT ?_ | refine brF ?_)
 first | refine Exists.intro _ (And.intro (s3) ?_) | refine Hn_by (Exists.intro _ (And.intro (s3) ?_))
 repeat (first | refine gT ?_ | refine gF ?_ | refine brT ?_ | refine brF ?_)
 first | refine Exists.intro _ (And.intro (ln) ?_) | refine Hn_by (Exists.intro _ (And.intro (ln) ?_))
 first | refine Exists.intro _ (And.intro (dv) ?_) | refine Hn_by (Exists.intro _ (And.intro (dv) ?_))
 first | refine Exists.intro _ (And.intro (nb) ?_) | refine Hn_by (Exists.intro _ (And.intro (nb) ?_))
 first | refine Exists.intro _ (And.intro (ek) ?_) | refine Hn_by (Exists.intro _ (And.intro (ek) ?_))
 repeat (first | refine gT ?_ | refine gF ?_ | refine brT ?_ | refine brF ?_)
 first | refine Exists.intro _ (And.intro (sg) ?_) | refine Hn_by (Exists.intro _ (And.intro (sg) ?_))
 refine brE (fun g => ?_) (fun g => ?_)
 ·have e:=hz (sgR_zero.1 g)
  subst e
  repeat (first | refine gT ?_ | refine gF ?_ | refine brT ?_ | refine brF ?_)
  exact And.intro (Or.inr rfl) rfl
 ·have s4:=hs (fun h => g (sgR_zero.2 h))
  unfold rv at s4
  repeat (first | refine gT ?_ | refine gF ?_ | refine brT ?_ | refine brF ?_)
  refine And.intro (Nat.le_refl 1) ?_
  first | refine Exists.intro _ (And.intro (s4) ?_) | refine Hn_by (Exists.intro _ (And.intro (s4) ?_))
  repeat (first | refine gT ?_ | refine gF ?_ | refine brT ?_ | refine brF ?_)
  exact And.intro (Or.inr rfl) rfl
theorem bd_frac {n : Int} {d N : Nat} (h : 0 < d) (hn : n.natAbs <= N) : Bd d N (Rat.divInt n d):=by
 refine ⟨h,n,?_,hn⟩
 rw [Rat.divInt_eq_div]
 have : ((d : Int) : Rat) ≠ 0:=by
  intro e
  have:=Rat.intCast_inj.1 (e.trans Rat.intCast_zero.symm)
  omega
 exact Rat.div_mul_cancel this
theorem sameRat_eq {d N : Nat} {a b : Rat} (ha : Bd d N a) (hs : N + d <= SZ) (h : a = b) : Spec Tryz.prog [] 18 [rV a,rV b] (.bool true):=by
 have s:=sameRat_spec [] (a:=a) (b:=b) (ha.rf hs)
 rw [decide_eq_true h] at s
 exact s
theorem evals_law (l : List Int) (hl : l.length <= maxLen) (il : ∀ x ∈ l,I64 x) (m : List Int) (hm : m.length <= maxLen) (im : ∀ x ∈ m,I64 x) (n : Int) (wn : (Lit.int .i64 n).wf = true) (d : Int) (wd : (Lit.int .i64 d).wf = true) :
  Spec Tryz.prog [] 11 [.sl (irows .i64 l),.sl (irows .i64 m),.int .i64 n,.int .i64 d] (.bool true):=by
 have hn : I64 n:=by
  simp only [Lit.wf,Bool.and_eq_true,decide_eq_true_eq] at wn
  exact wn
 have hd : I64 d:=by
  simp only [Lit.wf,Bool.and_eq_true,decide_eq_true_eq] at wd
  exact wd
 have p:=pb_poly l 5
 have q:=pb_poly m 5
 have pc:=lawPoly_pb [] il hl (n:=5) (by decide)
 have qc:=lawPoly_pb [] im hm (n:=5) (by decide)
 generalize polyQ l 5 = P at *
 generalize polyQ m 5 = Q at *
 have b1:=pickU_bd (x:=n) (n:=61) (by decide)
 have b2:=pickU_bd (x:=d) (n:=12) (by decide)
 obtain ⟨k,hk⟩ : ∃ k,k = pickU n 61 - 30:=⟨_,rfl⟩
 obtain ⟨D,hD⟩ : ∃ D : Nat,(D : Int) = 1 + pickU d 12:=⟨(1 + pickU d 12).toNat,by omega⟩
 have k30 : k.natAbs <= 30:=by omega
 have D12 : D <= 12:=by omega
 have of:=ratof_int [] (n:=k) (d:=(D : Int)) (by omega) (by omega) (by omega) (by omega)
 rw [mk_red (by omega)] at of
 have bx : Bd D 30 (Rat.divInt k D):=bd_frac (by omega) k30
 rw [hD] at of
 rw [hD] at bx
 generalize Rat.divInt k (1 + pickU d 12) = x at of bx
 have bk : Bd 1 30 ((k : Int) : Rat):=bd_int k30
 obtain ⟨da,ha,ba⟩:=vl_bd p bx D12
 obtain ⟨db,hb,bb⟩:=vl_bd q bx D12
 have su:=p.add q
 have pr:=p.mul q (by decide)
 have c0:=cmp_pb p.b q P.length p.l
 have co : PB 1 (50 * (66 * 50 + 1) ^ 5) 21 (cmp P Q P.length):=⟨fun i => (c0.b i).mono (Nat.mul_le_mul_left _ (Nat.pow_le_pow_right (by decide) p.l)),c0.t,by have:=c0.l; have:=p.l; omega⟩
 obtain ⟨dv,hv',bv⟩:=vl_bd su bx D12
 obtain ⟨dw,hw,bw⟩:=vl_bd pr bx D12
 obtain ⟨dy,hy,bY⟩:=vl_bd co bx D12
 obtain ⟨dk,hdk,bka⟩:=vl_bd p bk (Nat.le_refl 1)
 have lq : PB 1 50 8 (lin k):=⟨lin_bd (by omega),lin_lst k,show 2 <= 8 by decide⟩
 have l0 : 0 < (lin k).length:=show 0 < 2 by decide
 obtain ⟨A0,R,dr,_,hr,hlt,he⟩:=div_pb (p.more (by decide)) lq l0
 have er : vl (k : Rat) P = vl (k : Rat) R:=by
  rw [<- he,vl_add,vl_mul,vl_lin,Rat.mul_zero,Rat.zero_add]
 have hlt : R.length < 2:=hlt
 refine evals_walk hn hd hk sane_spec pc qc of
  (Eval_pb [] p (by decide) bx D12 (by decide +kernel) (by decide +kernel)) (Eval_pb [] q (by decide) bx D12 (by decide +kernel) (by decide +kernel))
  (Add_pb [] p q (by decide) (by decide) (by decide +kernel))
  (Mul_pb [] p q (by decide) (by decide) (by decide) (by decide +kernel) (by decide +kernel))
  (Compose_pb [] p q (by decide +kernel) (by decide +kernel) (by decide +kernel))
  (Eval_pb [] su (by decide) bx D12 (by decide +kernel) (by decide +kernel)) (Eval_pb [] pr (by decide) bx D12 (by decide +kernel) (by decide +kernel)) (Eval_pb [] co (by decide) bx D12 (by decide +kernel) (by decide +kernel))
  (add_rat [] (bd_fa ba bb (sz_mono (z:=50 * 43 ^ 5 + 12 ^ 5) (w:=50 * 43 ^ 5 + 12 ^ 5) (by decide +kernel) (by omega) (by omega))))
  (mul_rat [] (bd_fm ba bb (sz_mono (z:=50 * 43 ^ 5 + 12 ^ 5) (w:=50 * 43 ^ 5 + 12 ^ 5) (by decide +kernel) (by omega) (by omega))))
  (Eval_pb [] p (by decide) bb hb (by decide +kernel) (by decide +kernel))
  (sameRat_eq bv (Nat.le_trans (Nat.add_le_add_left hv' _) (by decide +kernel)) (vl_add x P Q))
  (sameRat_eq bw (Nat.le_trans (Nat.add_le_add_left hw _) (by decide +kernel)) (vl_mul x P Q))
  (sameRat_eq bY (Nat.le_trans (Nat.add_le_add_left hy _) (by decide +kernel)) (vl_cmp x P Q P.length))
  (lin_spec [] (by omega) (by omega)) (DivMod_spec [] (p.poly (by decide +kernel) (by decide)) (lq.poly (by decide +kernel) (by decide)) l0 dr)
  (number_spec [] (by omega) (by omega)) (Eval_pb [] p (by decide) bk (Nat.le_refl 1) (by decide +kernel) (by decide +kernel))
  (sign_rat [] (bka.rf (Nat.le_trans (Nat.add_le_add_left hdk _) (by decide +kernel)))) (fun hz => ?_) (fun hz => ?_)
 ·match R,hr,hlt,er with
  | [],_,_,_ => rfl
  | [c],hr,_,er =>
   have e1 : vl (k : Rat) [c] = c:=by
    show (0 : Rat) * (k : Rat) + c = c
    rw [Rat.zero_mul,Rat.zero_add]
   exact absurd (e1.symm.trans (er.symm.trans hz)) (lst_at hr.t (k:=0) rfl)
 ·refine Same_eq [] hr (by decide +kernel) (by decide) ?_
  match R,hr,hlt,er with
  | [],_,_,er => exact absurd er hz
  | [c],hr,_,er =>
   have e1 : vl (k : Rat) [c] = c:=by
    show (0 : Rat) * (k : Rat) + c = c
    rw [Rat.zero_mul,Rat.zero_add]
   rw [er,e1]
end Ab
