import Derived.Test.YtpjjbhhoagocjaaGreatDoorXGz
import Derived.Test.YtpjjbhhoagocjaaGreatDoorXIdeal
open Go Go.Proofs
namespace Ab
set_option maxRecDepth 100000
set_option maxHeartbeats 1000000
section
variable {q : List Rat} {d e M : Nat} {c : Int} (hq : BdL e M q) (hc : cf q d * (e : Rat) = (c : Rat)) (c0 : c ≠ 0)
include hq hc c0
theorem lead_eq : cf q d = (c : Rat) / (e : Rat) ∧ (e : Rat) ≠ 0 ∧ (c : Rat) ≠ 0:=by
 have e0 : (e : Rat) ≠ 0:=by
  have:=(hq 0).1
  intro h
  have h : ((e : Int) : Rat) = 0:=h
  have:=Rat.intCast_inj.1 (h.trans Rat.intCast_zero.symm)
  omega
 refine ⟨?_,e0,fun h => c0 (Rat.intCast_inj.1 (h.trans Rat.intCast_zero.symm))⟩
 rw [<- hc]; grind
theorem divX {x : Rat} {A K : Nat} (hx : Bd A K x) : Bd (A * c.natAbs) (K * e) (x / cf q d):=by
 obtain ⟨h1,h2,h3⟩:=lead_eq hq hc c0
 have w:=(hx.mul (bd_int (n:=(e : Int)) (N:=e) (by omega))).div c0
 rw [Nat.mul_one] at w
 have : x / cf q d = x * ((e : Int) : Rat) / (c : Rat):=by
  rw [h1]
  show x / ((c : Rat) / (e : Rat)) = x * (e : Rat) / c
  grind
 rw [this]; exact w
theorem divG {x y : Rat} {A K : Nat} (hx : Bd A K x) (hy : Bd e M y) : Bd (A * c.natAbs) (K * M) (x / cf q d * y):=by
 obtain ⟨h1,h2,h3⟩:=lead_eq hq hc c0
 obtain ⟨_,n,hn,hm⟩:=hy
 have w:=(hx.mul (bd_int (n:=n) hm)).div c0
 rw [Nat.mul_one] at w
 have : x / cf q d * y = x * (n : Rat) / (c : Rat):=by
  rw [h1,<- hn]
  grind
 rw [this]; exact w
end
section
variable {p q : List Rat} {d m D N e M : Nat} {c : Int} (hp : BdL D N p) (hq : BdL e M q) (hc : cf q d * (e : Rat) = (c : Rat)) (c0 : c ≠ 0) (cM : c.natAbs <= M)
include hp hq hc c0 cM
theorem divF_gen : ∀ t j,Bd (D * c.natAbs ^ t) (N * (2 * M) ^ t) (divF p q d m t j)
 | 0,j => by rw [Nat.pow_zero,Nat.pow_zero,Nat.mul_one,Nat.mul_one]; exact hp j
 | t + 1,j => by
  have ih:=divF_gen t
  unfold divF
  have w:=(ih j).wide c.natAbs (by omega)
  have w2:=w.mono (Nat.mul_le_mul_left _ cM)
  have e2 : N * (2 * M) ^ (t + 1) = N * (2 * M) ^ t * M + N * (2 * M) ^ t * M:=by rw [Nat.pow_succ,<- Nat.mul_assoc,<- Nat.mul_assoc,Nat.mul_comm _ 2]; rw [Nat.mul_assoc,Nat.mul_assoc]; omega
  rw [Nat.pow_succ,<- Nat.mul_assoc,e2]
  split
  ·exact w2.sub (divG hq hc c0 (ih _) (hq _))
  ·exact w2.mono (by omega)
end
theorem bd_lead {e M : Nat} {q : List Rat} (hq : BdL e M q) {i : Nat} (h : cf q i ≠ 0) : ∃ c : Int,cf q i * (e : Rat) = (c : Rat) ∧ c ≠ 0 ∧ c.natAbs <= M:=by
 obtain ⟨h0,n,h1,h2⟩:=hq i
 refine ⟨n,h1,fun e0 => ?_,h2⟩
 rw [e0] at h1
 rcases Rat.mul_eq_zero.1 (h1.trans Rat.intCast_zero) with h3 | h3
 ·exact h h3
 ·have h3 : ((e : Int) : Rat) = 0:=h3
  have:=Rat.intCast_inj.1 (h3.trans Rat.intCast_zero.symm)
  omega
def SB (a : Nat) (p : List Rat) : Prop:=∃ d N,d <= 2 ^ a ∧ N <= 2 ^ a ∧ BdL d N p
theorem SB.mono {a b : Nat} {p : List Rat} (h : SB a p) (hl : a <= b) : SB b p:=by
 obtain ⟨d,N,h1,h2,h3⟩:=h
 have:=Nat.pow_le_pow_right (show 0 < 2 by decide) hl
 exact ⟨d,N,by omega,by omega,h3⟩
theorem two_two (a : Nat) : 2 ^ a + 2 ^ a = 2 ^ (a + 1):=by rw [Nat.pow_succ]; omega
theorem sz_pow {a : Nat} (h : a <= 4000) : 2 ^ a <= SZ:=by
 revert h
 delta SZ
 generalize 4000 = n
 exact fun h => Nat.pow_le_pow_right Nat.two_pos h
theorem sz_two {a b x y : Nat} (hx : x <= 2 ^ a) (hy : y <= 2 ^ b) (h : a + b <= 4000) : x * y <= SZ:=by
 refine Nat.le_trans (Nat.mul_le_mul hx hy) ?_
 rw [<- Nat.pow_add]; exact sz_pow h
theorem SB.rf {a : Nat} {p : List Rat} (h : SB a p) (ha : a <= 3999) : AllRF p:=by
 obtain ⟨d,N,h1,h2,h3⟩:=h
 have:=two_two a
 have:=sz_pow (a:=a + 1) (by omega)
 exact h3.rf (by omega)
theorem SB.poly {a : Nat} {p : List Rat} (h : SB a p) (ha : a <= 3999) (hl : p.length <= 65) (ht : Lst p) : Poly p:=⟨h.rf ha,hl,ht⟩
theorem sb_nil {a : Nat} : SB a []:=⟨1,0,Nat.one_le_two_pow,Nat.zero_le _,bdl_nil (by decide)⟩
theorem SB.mul {a b : Nat} {p q : List Rat} (hp : SB a p) (hq : SB b q) (hl : p.length + q.length <= 66) : SB (a + b + 7) (mulP p q):=by
 obtain ⟨d,N,h1,h2,h3⟩:=hp
 obtain ⟨e,M,h4,h5,h6⟩:=hq
 have x1 : d * e <= 2 ^ (a + b):=by rw [Nat.pow_add]; exact Nat.mul_le_mul h1 h4
 have x2 : N * M <= 2 ^ (a + b):=by rw [Nat.pow_add]; exact Nat.mul_le_mul h2 h5
 have x3 : 2 ^ (a + b + 7) = 2 ^ (a + b) * 128:=Nat.pow_add ..
 exact ⟨_,_,by omega,by omega,bdl_mulP h3 h6 hl⟩
theorem Mul_sb (gl : List (Nat × AV)) {a b : Nat} {p q : List Rat} (hp : SB a p) (hq : SB b q) (tp : Lst p) (tq : Lst q) (lp : p.length <= 65) (lq : q.length <= 65) (hl : p.length + q.length <= 66) (h : a + b <= 1990) : Spec Tryz.prog gl 16 [polyV p,polyV q] (.tup [polyV (mulP p q),.int .i64 0]):=by
 obtain ⟨d,N,h1,h2,h3⟩:=hp
 obtain ⟨e,M,h4,h5,h6⟩:=hq
 have x1 : d * e <= 2 ^ (a + b):=by rw [Nat.pow_add]; exact Nat.mul_le_mul h1 h4
 have x2 : N * M <= 2 ^ (a + b):=by rw [Nat.pow_add]; exact Nat.mul_le_mul h2 h5
 have x3 : 2 ^ (a + b + 7) = 2 ^ (a + b) * 128:=Nat.pow_add ..
 have x4 : 2 ^ (a + b + 1) = 2 ^ (a + b) * 2:=Nat.pow_add ..
 have y1:=two_two a
 have y2:=two_two b
 refine Mul_any gl h3 h6 tp tq lp lq hl (sz_two (a:=a + 1) (b:=b + 1) (by omega) (by omega) (by omega)) (sz_two (a:=a + b + 7) (b:=a + b + 1) ?_ (by omega) (by omega))
 omega
theorem div_ex {a b : Nat} {p q : List Rat} (hp : SB a p) (hq : SB b q) (tp : Lst p) (tq : Lst q) (_lp : p.length <= 65) (h0 : 0 < q.length) (hs : 1 + a + (p.length + 1 - q.length) * (b + 1) <= 2000) :
  ∃ A R,DivR p q A R ∧ (∀ k,cf p k = cnv (cf A) (cf q) k + cf R k) ∧ R.length < q.length ∧ Lst R ∧ SB (a + (p.length + 1 - q.length) * (b + 1)) R:=by
 by_cases hl : p.length < q.length
 ·refine ⟨[],p,.short hl,fun k => ?_,hl,tp,?_⟩
  ·rw [show cnv (cf []) (cf q) k = 0 from psum_zero fun j _ => by rw [cf_out (p:=[]) (Nat.zero_le _),Rat.zero_mul],Rat.zero_add]
  ·rw [show p.length + 1 - q.length = 0 by omega,Nat.zero_mul]; exact hp
 ·have ql:=lst_at tq (k:=q.length - 1) (by omega)
  obtain ⟨D,N,h1,h2,h3⟩:=hp
  obtain ⟨e,M,h4,h5,h6⟩:=hq
  obtain ⟨c,hc,c0,cM⟩:=bd_lead h6 ql
  obtain ⟨m,hm⟩ : ∃ m,m = p.length + 1 - q.length:=⟨_,rfl⟩
  have hm' : p.length - (q.length - 1) = m:=by omega
  rw [<- hm] at hs
  have m1 : 1 <= m:=by omega
  have c1 : 1 <= c.natAbs:=by omega
  have fb:=fun (t j : Nat) => divF_gen (d:=q.length - 1) (m:=m) h3 h6 hc c0 cM t j
  have p1 : ∀ t,t <= m -> D * c.natAbs ^ t <= 2 ^ (a + m * (b + 1)):=fun t ht => by
   rw [Nat.pow_add]
   refine Nat.mul_le_mul h1 ?_
   rw [Nat.mul_comm m,Nat.pow_mul]
   refine Nat.le_trans (Nat.pow_le_pow_left (show c.natAbs <= 2 ^ (b + 1) by rw [<- two_two]; omega) t) (Nat.pow_le_pow_right (Nat.pow_pos (by decide)) ht)
  have p2 : ∀ t,t <= m -> N * (2 * M) ^ t <= 2 ^ (a + m * (b + 1)):=fun t ht => by
   rw [Nat.pow_add]
   refine Nat.mul_le_mul h2 ?_
   rw [Nat.mul_comm m,Nat.pow_mul]
   refine Nat.le_trans (Nat.pow_le_pow_left (show 2 * M <= 2 ^ (b + 1) by rw [<- two_two]; omega) t) (Nat.pow_le_pow_right (Nat.pow_pos (by decide)) ht)
  have p3 : ∀ t,t < m -> ∀ K,K <= M ∨ K <= 2 ^ b -> N * (2 * M) ^ t * K <= 2 ^ (a + m * (b + 1)):=fun t ht K hK => by
   have hK : K <= 2 ^ (b + 1):=by rw [<- two_two]; omega
   have e1 : 2 ^ (a + m * (b + 1)) = 2 ^ a * ((2 ^ (b + 1)) ^ (m - 1) * 2 ^ (b + 1)):=by
    rw [<- Nat.pow_succ,<- Nat.pow_mul,<- Nat.pow_add]; congr 2; rw [Nat.mul_comm]; congr 1; omega
   rw [e1,Nat.mul_assoc]
   refine Nat.mul_le_mul h2 (Nat.mul_le_mul ?_ hK)
   refine Nat.le_trans (Nat.pow_le_pow_left (show 2 * M <= 2 ^ (b + 1) by rw [<- two_two]; omega) t) (Nat.pow_le_pow_right (Nat.pow_pos (by decide)) (by omega))
  have z1:=two_two (a + m * (b + 1))
  have z2:=two_two b
  have bm : b + 1 <= m * (b + 1):=Nat.le_mul_of_pos_left _ m1
  have ok : DivOk p q:=by
   constructor
   ·rw [hm']
    intro t ht
    exact bd_fd (fb t _) (h6 _) (sz_two (a:=a + m * (b + 1) + 1) (b:=b + 1) (by have:=p1 t (by omega); have:=p2 t (by omega); omega) (by omega) (by omega)) ql
   ·rw [hm']
    intro t ht i hi
    have cb:=divX h6 hc c0 (fb t (m - 1 - t + (q.length - 1)))
    rw [Nat.mul_assoc,<- Nat.pow_succ] at cb
    have ec : divC p q (q.length - 1) m (m - 1 - t) = divF p q (q.length - 1) m t (m - 1 - t + (q.length - 1)) / cf q (q.length - 1):=by
     unfold divC
     rw [show m - 1 - (m - 1 - t) = t by omega]
    rw [ec]
    refine bd_fm cb (h6 i) (sz_two (a:=a + m * (b + 1) + 1) (b:=b + 1) ?_ (by omega) (by omega))
    have : D * c.natAbs ^ t.succ <= _:=p1 (t + 1) (by omega)
    have:=p3 t ht e (.inr h4)
    omega
   ·rw [hm']
    intro t ht i hi
    have cb:=divG h6 hc c0 (fb t (m - 1 - t + (q.length - 1))) (h6 i)
    rw [Nat.mul_assoc,<- Nat.pow_succ] at cb
    have ec : divC p q (q.length - 1) m (m - 1 - t) = divF p q (q.length - 1) m t (m - 1 - t + (q.length - 1)) / cf q (q.length - 1):=by
     unfold divC
     rw [show m - 1 - (m - 1 - t) = t by omega]
    rw [ec]
    refine bd_fs (fb t _) cb (sz_two (a:=a + m * (b + 1) + 1) (b:=a + m * (b + 1) + 1) ?_ ?_ (by omega))
    ·have:=p1 t (by omega); have:=p2 t (by omega); omega
    ·have : D * c.natAbs ^ t.succ <= _:=p1 (t + 1) (by omega)
     have:=p3 t ht M (.inl (Nat.le_refl _))
     omega
   ·intro r hr
    unfold divR0 at hr
    obtain ⟨j,hj,rfl⟩:=List.mem_map.1 hr
    rw [hm']
    refine (fb m j).rf ?_
    have:=p1 m (Nat.le_refl _)
    have:=p2 m (Nat.le_refl _)
    have:=sz_pow (a:=a + m * (b + 1) + 1) (by omega)
    omega
  have cl:=clip_len (divR0 p q)
  have rl : (divR0 p q).length = q.length - 1:=by unfold divR0; simp
  refine ⟨_,_,.long (by omega) ok,fun k => ?_,by omega,clip_lst _,?_⟩
  ·rw [cf_clip]; exact div_id h0 (by omega) ql k
  ·refine ⟨D * c.natAbs ^ m,N * (2 * M) ^ m,?_,?_,bdl_clip (bdl_of ?_ fun i hi => ?_)⟩
   ·rw [<- hm]; exact p1 m (Nat.le_refl _)
   ·rw [<- hm]; exact p2 m (Nat.le_refl _)
   ·exact (fb m 0).1
   ·rw [rl] at hi
    unfold divR0
    rw [cf_range hi,hm']
    exact fb m i
theorem cf_monP (p : List Rat) (i : Nat) : cf (monP p) i = cf p i / cf p (p.length - 1):=by
 by_cases h : i < p.length
 ·unfold monP
  simp [cf,List.getD,List.getElem?_eq_getElem h]
 ·rw [cf_out (by unfold monP; simp; omega),cf_out (p:=p) (by omega)]
  grind
theorem monP_len (p : List Rat) : (monP p).length = p.length:=by simp [monP]
theorem monP_lst {p : List Rat} (h : Lst p) : Lst (monP p):=by
 refine lst_of fun k hk => ?_
 rw [monP_len] at hk
 rw [cf_monP,hk]
 have:=lst_at h hk
 show cf p k / cf p k ≠ 0
 grind
theorem monP_one {p : List Rat} (h : Lst p) (h0 : 0 < p.length) : cf (monP p) (p.length - 1) = 1:=by
 rw [cf_monP]
 have:=lst_at h (k:=p.length - 1) (by omega)
 grind
theorem mon_ok {a : Nat} {p : List Rat} (h : SB a p) (ha : a <= 1999) (ht : Lst p) : MonOk p:=by
 obtain ⟨D,N,h1,h2,h3⟩:=h
 intro i hi
 have z:=two_two a
 exact bd_fd (h3 i) (h3 _) (sz_two (a:=a + 1) (b:=a + 1) (by omega) (by omega) (by omega)) (lst_at ht (by omega))
theorem mon_sb {a : Nat} {p : List Rat} (h : SB a p) (ht : Lst p) : SB a (monP p):=by
 by_cases h0 : p.length = 0
 ·rw [List.eq_nil_of_length_eq_zero h0]; exact sb_nil
 ·obtain ⟨D,N,h1,h2,h3⟩:=h
  have ql:=lst_at ht (k:=p.length - 1) (by omega)
  obtain ⟨c,hc,c0,cM⟩:=bd_lead h3 ql
  obtain ⟨e1,e2,e3⟩:=lead_eq h3 hc c0
  refine ⟨c.natAbs,N,by omega,h2,fun i => ?_⟩
  obtain ⟨_,n,hn,hN⟩:=h3 i
  have w:=(bd_int hN).div c0
  rw [Nat.one_mul] at w
  rw [cf_monP,e1]
  have : cf p i / ((c : Rat) / (D : Rat)) = (n : Rat) / (c : Rat):=by rw [<- hn]; grind
  rw [this]
  exact w
end Ab
