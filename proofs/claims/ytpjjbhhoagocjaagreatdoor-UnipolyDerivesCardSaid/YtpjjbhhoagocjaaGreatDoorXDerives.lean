import Derived.Test.YtpjjbhhoagocjaaGreatDoorXCompose
import Derived.Test.YtpjjbhhoagocjaaGreatDoorXDerive
import Derived.Test.YtpjjbhhoagocjaaGreatDoorXDerP
import Derived.Test.YtpjjbhhoagocjaaGreatDoorXDivP
import Derived.Test.YtpjjbhhoagocjaaGreatDoorXSane03
open Go Go.Proofs
namespace Ab
set_option maxRecDepth 100000
set_option maxHeartbeats 1000000
theorem cf_derP (p : List Rat) (i : Nat) : cf (derP p) i = dif (cf p) i:=by
 unfold derP derK
 rw [cf_rng]
 split
 ·rfl
 ·unfold dif
  rw [cf_out (p:=p) (i:=i + 1) (by omega),Rat.mul_zero]
theorem derP_len (p : List Rat) : (derP p).length = p.length - 1:=derK_len p _
theorem derP_pb {N n : Nat} {p : List Rat} (h : PB 1 N n p) : PB 1 (n * N) (n - 1) (derP p):=by
 have hl:=h.l
 refine ⟨bdl_of (by decide) fun i hi => ?_,lst_of fun k hk => ?_,by rw [derP_len]; omega⟩
 ·rw [derP_len] at hi
  rw [cf_derP]
  exact (bd_int (N:=n) (by omega)).mul (h.b (i + 1))
 ·rw [derP_len] at hk
  rw [cf_derP]
  unfold dif
  intro e
  rcases Rat.mul_eq_zero.1 e with e | e
  ·have:=Rat.intCast_inj.1 (e.trans Rat.intCast_zero.symm)
   omega
  ·exact lst_at h.t (k:=k + 1) (by omega) e
theorem Der_pb (gl : List (Nat × AV)) {N n : Nat} {p : List Rat} (h : PB 1 N n p) (hn : n <= 65) (hs : (65 + 1) * (N + 1) <= SZ) : Spec Tryz.prog gl 39 [polyV p] (.tup [polyV (derP p),.int .i64 0]):=by
 have hl:=h.l
 obtain ⟨_,s2,_⟩:=sz_all hs (by decide) (by decide)
 exact Derivative_spec gl (h.poly s2 hn) fun i hi => bd_fm (bd_int (N:=65) (by omega)) (h.b (i + 1)) hs
theorem cf_one (c : Rat) (k : Nat) : cf [c] k = c * one0 k:=by
 cases k with
 | zero => exact (Rat.mul_one c).symm
 | succ k => exact (Rat.mul_zero c).symm
theorem cf_cmp (p q : List Rat) : ∀ t,t <= p.length -> ∀ k,cf (cmp p q t) k = cmpF (fun i => cf p (p.length - t + i)) (cf q) t k
 | 0,_,k => cf_out (p:=[]) (Nat.zero_le _)
 | t + 1,ht,k => by
  show cf (addP (mulP (cmp p q t) q) (clipP [cf p (p.length - 1 - t)])) k = _
  rw [cf_addP,cf_mulP,cf_clip,cf_one,cmpF_front,cnv_congr (cf_cmp p q t (by omega)) (fun _ => rfl)]
  have e : (shf fun i => cf p (p.length - (t + 1) + i)) = fun i => cf p (p.length - t + i):=funext fun i => by
   show cf p (p.length - (t + 1) + (i + 1)) = _
   rw [show p.length - (t + 1) + (i + 1) = p.length - t + i by omega]
  rw [e]
  show _ = _ + cf p (p.length - (t + 1) + 0) * one0 k
  rw [show p.length - (t + 1) + 0 = p.length - 1 - t by omega]
theorem cf_cmp_all (p q : List Rat) (k : Nat) : cf (cmp p q p.length) k = cmpF (cf p) (cf q) p.length k:=by
 rw [cf_cmp p q _ (Nat.le_refl _)]
 have : (fun i => cf p (p.length - p.length + i)) = cf p:=funext fun i => by rw [Nat.sub_self,Nat.zero_add]
 rw [this]
theorem clip1_pb {N : Nat} {c : Rat} (h : Bd 1 N c) : PB 1 N 1 (clipP [c]) :=
 ⟨bdl_clip (bdl_of (by decide) fun i hi => by
  have e : i = 0:=by simp at hi; exact hi
  subst e; exact h),clip_lst _,clip_len [c]⟩
theorem cmp_pb {N M : Nat} {p q : List Rat} (hp : BdL 1 N p) (hq : PB 1 M 5 q) : ∀ t,t <= 5 -> PB 1 (N * (66 * M + 1) ^ t) (4 * t + 1) (cmp p q t)
 | 0,_ => pb_nil (by decide)
 | t + 1,ht => by
  have ih:=cmp_pb hp hq t (by omega)
  have h:=(ih.mul hq (by omega)).add (clip1_pb (hp (p.length - 1 - t)))
  refine ⟨fun i => (h.b i).mono ?_,h.t,Nat.le_trans h.l (by omega)⟩
  have e : N * (66 * M + 1) ^ (t + 1) = 66 * (N * (66 * M + 1) ^ t * M) + N * (66 * M + 1) ^ t:=by
   rw [Nat.pow_succ,Nat.mul_add,Nat.mul_add,Nat.mul_one]
   congr 1
   rw [<- Nat.mul_assoc,Nat.mul_comm N]
   grind
  rw [e]
  have : N <= N * (66 * M + 1) ^ t:=Nat.le_mul_of_pos_right _ (Nat.pow_pos (by omega))
  omega
theorem Compose_pb (gl : List (Nat × AV)) {N M : Nat} {p q : List Rat} (hp : PB 1 N 5 p) (hq : PB 1 M 5 q) (h1 : (N * (66 * M + 1) ^ 5 + 1) * (M + 1) <= SZ) (h2 : (66 * (N * (66 * M + 1) ^ 5 * M) + 1 * 1) * (N * (66 * M + 1) ^ 5 * M + 1 * 1) <= SZ) (h3 : (66 * (N * (66 * M + 1) ^ 5 * M) + 1 * 1) * (N + 1) <= SZ) : Spec Tryz.prog gl 37 [polyV p,polyV q] (.tup [polyV (cmp p q p.length),.int .i64 0]):=by
 have pl:=hp.l
 have ql:=hq.l
 obtain ⟨s1,s2,_⟩:=sz_all h1 (by decide) (by decide)
 obtain ⟨_,s3,_⟩:=sz_all h3 (by decide) (by decide)
 have mono : ∀ t,t <= 5 -> N * (66 * M + 1) ^ t <= N * (66 * M + 1) ^ 5:=fun t ht => Nat.mul_le_mul_left _ (Nat.pow_le_pow_right (by omega) ht)
 have hc : ∀ t,t <= 5 -> PB 1 (N * (66 * M + 1) ^ 5) (4 * t + 1) (cmp p q t):=fun t ht =>
  have h:=cmp_pb hp.b hq t ht
  ⟨fun i => (h.b i).mono (mono t ht),h.t,h.l⟩
 have hd : (p.length - 1) * (q.length - 1) <= 64:=Nat.le_trans (Nat.mul_le_mul (show p.length - 1 <= 4 by omega) (show q.length - 1 <= 4 by omega)) (by decide)
 refine Compose_spec gl (hp.poly s3 (by decide)) (hq.poly s2 (by decide)) hd ⟨fun t ht => ?_,fun t ht => ?_,fun t ht j => ?_⟩
 ·have:=((hc t (by omega)).mul hq (by omega)).l
  omega
 ·exact mul_any gl (hc t (by omega)).b hq.b (by have:=(hc t (by omega)).l; omega) h1 h2
 ·exact bd_fa (((hc t (by omega)).mul hq (by omega)).b j) ((clip1_pb (hp.b _)).b j) h3
theorem derives_walk {l m : List Int} {P Q DP DQ T0 U X Y A B S C D : List Rat}
  (sa : Spec Tryz.prog [] 14 [] (.bool true))
  (pa : Spec Tryz.prog [] 15 [.sl (irows .i64 l),.int .i64 5] (polyV P))
  (pb : Spec Tryz.prog [] 15 [.sl (irows .i64 m),.int .i64 5] (polyV Q))
  (dp : Spec Tryz.prog [] 39 [polyV P] (.tup [polyV DP,.int .i64 0]))
  (dq : Spec Tryz.prog [] 39 [polyV Q] (.tup [polyV DQ,.int .i64 0]))
  (t : Spec Tryz.prog [] 16 [polyV P,polyV Q] (.tup [polyV T0,.int .i64 0]))
  (u : Spec Tryz.prog [] 37 [polyV P,polyV Q] (.tup [polyV U,.int .i64 0]))
  (x : Spec Tryz.prog [] 39 [polyV T0] (.tup [polyV X,.int .i64 0]))
  (y : Spec Tryz.prog [] 39 [polyV U] (.tup [polyV Y,.int .i64 0]))
  (a : Spec Tryz.prog [] 16 [polyV DP,polyV Q] (.tup [polyV A,.int .i64 0]))
  (b : Spec Tryz.prog [] 16 [polyV P,polyV DQ] (.tup [polyV B,.int .i64 0]))
  (s : Spec Tryz.prog [] 33 [polyV A,polyV B] (.tup [polyV S,.int .i64 0]))
  (c : Spec Tryz.prog [] 37 [polyV DP,polyV Q] (.tup [polyV C,.int .i64 0]))
  (d : Spec Tryz.prog [] 16 [polyV C,polyV DQ] (.tup [polyV D,.int .i64 0]))
  (s1 : Spec Tryz.prog [] 20 [polyV X,polyV S] (.bool true))
  (s2 : Spec Tryz.prog [] 20 [polyV Y,polyV D] (.bool true)) :
  Spec Tryz.prog [] 12 [.sl (irows .i64 l),.sl (irows .i64 m)] (.bool true):=by
 refine spec_fn T_ok mixed_ok 0 Tryz.func12 fn_ok12 (by kernel_rfl) ?_
 first | refine Exists.intro _ (And.intro (sa) ?_) | refine Hn_by (Exists.intro _ (And.intro (sa) ?_))
 repeat (first | refine gT ?_ | refine gF ?_ | refine brT ?_ | refine brF ?_)
 first | refine Exists.intro _ (And.intro (pa) ?_) | refine Hn_by (Exists.intro _ (And.intro (pa) ?_))
 first | refine Exists.intro _ (And.intro (pb) ?_) | refine Hn_by (Exists.intro _ (And.intro (pb) ?_))
 first | refine Exists.intro _ (And.intro (dp) ?_) | refine Hn_by (Exists.intro _ (And.intro (dp) ?_))
 first | refine Exists.intro _ (And.intro (dq) ?_) | refine Hn_by (Exists.intro _ (And.intro (dq) ?_))
 first | refine Exists.intro _ (And.intro (t) ?_) | refine Hn_by (Exists.intro _ (And.intro (t) ?_))
 first | refine Exists.intro _ (And.intro (u) ?_) | refine Hn_by (Exists.intro _ (And.intro (u) ?_))
 first | refine Exists.intro _ (And.intro (x) ?_) | refine Hn_by (Exists.intro _ (And.intro (x) ?_))
 first | refine Exists.intro _ (And.intro (y) ?_) | refine Hn_by (Exists.intro _ (And.intro (y) ?_))
 repeat (first | refine gT ?_ | refine gF ?_ | refine brT ?_ | refine brF ?_)
 first | refine Exists.intro _ (And.intro (a) ?_) | refine Hn_by (Exists.intro _ (And.intro (a) ?_))
 first | refine Exists.intro _ (And.intro (b) ?_) | refine Hn_by (Exists.intro _ (And.intro (b) ?_))
 first | refine Exists.intro _ (And.intro (s) ?_) | refine Hn_by (Exists.intro _ (And.intro (s) ?_))
 first | refine Exists.intro _ (And.intro (c) ?_) | refine Hn_by (Exists.intro _ (And.intro (c) ?_))
 first | refine Exists.intro _ (And.intro (d) ?_) | refine Hn_by (Exists.intro _ (And.intro (d) ?_))
 repeat (first | refine gT ?_ | refine gF ?_ | refine brT ?_ | refine brF ?_)
 first | refine Exists.intro _ (And.intro (s1) ?_) | refine Hn_by (Exists.intro _ (And.intro (s1) ?_))
 repeat (first | refine gT ?_ | refine gF ?_ | refine brT ?_ | refine brF ?_)
 first | refine Exists.intro _ (And.intro (s2) ?_) | refine Hn_by (Exists.intro _ (And.intro (s2) ?_))
 repeat (first | refine gT ?_ | refine gF ?_ | refine brT ?_ | refine brF ?_)
 exact And.intro (Or.inr rfl) rfl
theorem derives_law (l : List Int) (hl : l.length <= maxLen) (il : ∀ x ∈ l,I64 x) (m : List Int) (hm : m.length <= maxLen) (im : ∀ x ∈ m,I64 x) :
  Spec Tryz.prog [] 12 [.sl (irows .i64 l),.sl (irows .i64 m)] (.bool true):=by
 have p:=pb_poly l 5
 have q:=pb_poly m 5
 have pc:=lawPoly_pb [] il hl (n:=5) (by decide)
 have qc:=lawPoly_pb [] im hm (n:=5) (by decide)
 generalize polyQ l 5 = P at *
 generalize polyQ m 5 = Q at *
 have dp:=derP_pb p
 have dq:=derP_pb q
 have t:=p.mul q (by decide)
 have u0:=cmp_pb p.b q P.length p.l
 have u : PB 1 (50 * (66 * 50 + 1) ^ 5) 21 (cmp P Q P.length):=⟨fun i => (u0.b i).mono (Nat.mul_le_mul_left _ (Nat.pow_le_pow_right (by decide) p.l)),u0.t,by have:=u0.l; have:=p.l; omega⟩
 have a:=dp.mul q (by decide)
 have b:=p.mul dq (by decide)
 have dl:=dp.l
 have c0:=cmp_pb dp.b q (derP P).length (by omega)
 have c : PB 1 (5 * 50 * (66 * 50 + 1) ^ 5) 21 (cmp (derP P) Q (derP P).length):=⟨fun i => (c0.b i).mono (Nat.mul_le_mul_left _ (Nat.pow_le_pow_right (by decide) (by omega))),c0.t,by have:=c0.l; omega⟩
 have x:=derP_pb t
 have y:=derP_pb u
 have s:=a.add b
 have d:=c.mul dq (by decide)
 refine derives_walk sane_spec pc qc (Der_pb [] p (by decide) (by decide +kernel)) (Der_pb [] q (by decide) (by decide +kernel))
  (Mul_pb [] p q (by decide) (by decide) (by decide) (by decide +kernel) (by decide +kernel))
  (Compose_pb [] p q (by decide +kernel) (by decide +kernel) (by decide +kernel))
  (Der_pb [] t (by decide) (by decide +kernel)) (Der_pb [] u (by decide) (by decide +kernel))
  (Mul_pb [] dp q (by decide) (by decide) (by decide) (by decide +kernel) (by decide +kernel))
  (Mul_pb [] p dq (by decide) (by decide) (by decide) (by decide +kernel) (by decide +kernel))
  (Add_pb [] a b (by decide) (by decide) (by decide +kernel))
  (Compose_pb [] (dp.more (by decide)) q (by decide +kernel) (by decide +kernel) (by decide +kernel))
  (Mul_pb [] c dq (by decide) (by decide) (by decide) (by decide +kernel) (by decide +kernel))
  (Same_eq [] x (by decide +kernel) (by decide) (lst_ext x.t s.t fun i => ?_))
  (Same_eq [] y (by decide +kernel) (by decide) (lst_ext y.t d.t fun i => ?_))
 ·rw [cf_derP,cf_addP,cf_mulP,cf_mulP,show cf (mulP P Q) = cnv (cf P) (cf Q) from funext fun j => cf_mulP P Q j,dif_cnv,
   show cf (derP P) = dif (cf P) from funext fun j => cf_derP P j,show cf (derP Q) = dif (cf Q) from funext fun j => cf_derP Q j]
 ·rw [cf_derP,cf_mulP,show cf (cmp P Q P.length) = cmpF (cf P) (cf Q) P.length from funext fun j => cf_cmp_all P Q j,
   show cf (cmp (derP P) Q (derP P).length) = cmpF (cf (derP P)) (cf Q) (derP P).length from funext fun j => cf_cmp_all _ Q j,
   show cf (derP P) = dif (cf P) from funext fun j => cf_derP P j,show cf (derP Q) = dif (cf Q) from funext fun j => cf_derP Q j,derP_len]
  rcases Nat.eq_zero_or_pos P.length with e | e
  ·rw [e]
   have h1 : dif (cmpF (cf P) (cf Q) 0) i = 0:=Rat.mul_zero _
   rw [h1]
   exact (psum_zero fun j _ => Rat.zero_mul _).symm
  ·rw [show P.length = P.length - 1 + 1 by omega,dif_cmp,Nat.add_sub_cancel]
end Ab
