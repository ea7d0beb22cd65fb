import Derived.Test.YtpjjbhhoagocjaaGreatDoorXGz
import Derived.Test.YtpjjbhhoagocjaaGreatDoorXIdeal
section
open Go Go.Proofs
namespace Ab
set_option maxRecDepth 100000
set_option maxHeartbeats 1000000
section
variable {q : List Rat} {d e M : Nat} {c : Int} (hq : BdL e M q) (hc : cf q d * (e : Rat) = (c : Rat)) (c0 : c ≠ 0)
include hq hc c0
theorem lead_eq : cf q d = (c : Rat) / (e : Rat)∧(e : Rat) ≠ 0∧(c : Rat) ≠ 0:=by
 have e0 : (e : Rat) ≠ 0:=by
  have:=(hq 0).1
  intro h
  have h : ((e : Int) : Rat) = 0:=h
  have:=Rat.intCast_inj.1 (h.trans Rat.intCast_zero.symm)
  omega
 refine ⟨?_,e0,fun h => c0 (Rat.intCast_inj.1 (h.trans Rat.intCast_zero.symm))⟩
 rw [<- hc]; grind
theorem divX {x : Rat} {A K : Nat} (hx : Bd A K x) : Bd (A * c.natAbs) (K * e) (x / cf q d):=by
 obtain ⟨h1,h2,h3⟩:=lead_eq hq hc c0
 have w:=(hx.mul (bd_int (n:=(e : Int)) (N:=e) (by omega))).div c0
 rw [Nat.mul_one] at w
 have : x / cf q d = x * ((e : Int) : Rat) / (c : Rat):=by
  rw [h1]
  show x / ((c : Rat) / (e : Rat)) = x * (e : Rat) / c
  grind
 rw [this]; exact w
theorem divG {x y : Rat} {A K : Nat} (hx : Bd A K x) (hy : Bd e M y) : Bd (A * c.natAbs) (K * M) (x / cf q d * y):=by
 obtain ⟨h1,h2,h3⟩:=lead_eq hq hc c0
 obtain ⟨_,n,hn,hm⟩:=hy
 have w:=(hx.mul (bd_int (n:=n) hm)).div c0
 rw [Nat.mul_one] at w
 have : x / cf q d * y = x * (n : Rat) / (c : Rat):=by
  rw [h1,<- hn]
  grind
 rw [this]; exact w
end
section
variable {p q : List Rat} {d m D N e M : Nat} {c : Int} (hp : BdL D N p) (hq : BdL e M q) (hc : cf q d * (e : Rat) = (c : Rat)) (c0 : c ≠ 0) (cM : c.natAbs <= M)
include hp hq hc c0 cM
theorem divF_gen : ∀ t j,Bd (D * c.natAbs ^ t) (N * (2 * M) ^ t) (divF p q d m t j)
 | 0,j => by rw [Nat.pow_zero,Nat.pow_zero,Nat.mul_one,Nat.mul_one]; exact hp j
 | t + 1,j => by
  have ih:=divF_gen t
  unfold divF
  have w:=(ih j).wide c.natAbs (by omega)
  have w2:=w.mono (Nat.mul_le_mul_left _ cM)
  have e2 : N * (2 * M) ^ (t + 1) = N * (2 * M) ^ t * M + N * (2 * M) ^ t * M:=by rw [Nat.pow_succ,<- Nat.mul_assoc,<- Nat.mul_assoc,Nat.mul_comm _ 2]; rw [Nat.mul_assoc,Nat.mul_assoc]; omega
  rw [Nat.pow_succ,<- Nat.mul_assoc,e2]
  split
  ·exact w2.sub (divG hq hc c0 (ih _) (hq _))
  ·exact w2.mono (by omega)
end
theorem bd_lead {e M : Nat} {q : List Rat} (hq : BdL e M q) {i : Nat} (h : cf q i ≠ 0) : ∃ c : Int,cf q i * (e : Rat) = (c : Rat)∧c ≠ 0∧c.natAbs <= M:=by
 obtain ⟨h0,n,h1,h2⟩:=hq i
 refine ⟨n,h1,fun e0 => ?_,h2⟩
 rw [e0] at h1
 rcases Rat.mul_eq_zero.1 (h1.trans Rat.intCast_zero) with h3 | h3
 ·exact h h3
 ·have h3 : ((e : Int) : Rat) = 0:=h3
  have:=Rat.intCast_inj.1 (h3.trans Rat.intCast_zero.symm)
  omega
def SB (a : Nat) (p : List Rat) : Prop:=∃ d N,d <= 2 ^ a∧N <= 2 ^ a∧BdL d N p
theorem SB.mono {a b : Nat} {p : List Rat} (h : SB a p) (hl : a <= b) : SB b p:=by
 obtain ⟨d,N,h1,h2,h3⟩:=h
 have:=Nat.pow_le_pow_right (show 0 < 2 by decide) hl
 exact ⟨d,N,by omega,by omega,h3⟩
theorem two_two (a : Nat) : 2 ^ a + 2 ^ a = 2 ^ (a + 1):=by rw [Nat.pow_succ]; omega
theorem sz_pow {a : Nat} (h : a <= 4000) : 2 ^ a <= SZ:=by
 revert h
 delta SZ
 generalize 4000 = n
 exact fun h => Nat.pow_le_pow_right Nat.two_pos h
theorem sz_two {a b x y : Nat} (hx : x <= 2 ^ a) (hy : y <= 2 ^ b) (h : a + b <= 4000) : x * y <= SZ:=by
 refine Nat.le_trans (Nat.mul_le_mul hx hy) ?_
 rw [<- Nat.pow_add]; exact sz_pow h
theorem SB.rf {a : Nat} {p : List Rat} (h : SB a p) (ha : a <= 3999) : AllRF p:=by
 obtain ⟨d,N,h1,h2,h3⟩:=h
 have:=two_two a
 have:=sz_pow (a:=a + 1) (by omega)
 exact h3.rf (by omega)
theorem SB.poly {a : Nat} {p : List Rat} (h : SB a p) (ha : a <= 3999) (hl : p.length <= 65) (ht : Lst p) : Poly p:=⟨h.rf ha,hl,ht⟩
theorem sb_nil {a : Nat} : SB a []:=⟨1,0,Nat.one_le_two_pow,Nat.zero_le _,bdl_nil (by decide)⟩
theorem SB.mul {a b : Nat} {p q : List Rat} (hp : SB a p) (hq : SB b q) (hl : p.length + q.length <= 66) : SB (a + b + 7) (mulP p q):=by
 obtain ⟨d,N,h1,h2,h3⟩:=hp
 obtain ⟨e,M,h4,h5,h6⟩:=hq
 have x1 : d * e <= 2 ^ (a + b):=by rw [Nat.pow_add]; exact Nat.mul_le_mul h1 h4
 have x2 : N * M <= 2 ^ (a + b):=by rw [Nat.pow_add]; exact Nat.mul_le_mul h2 h5
 have x3 : 2 ^ (a + b + 7) = 2 ^ (a + b) * 128:=Nat.pow_add ..
 exact ⟨_,_,by omega,by omega,bdl_mulP h3 h6 hl⟩
theorem Mul_sb (gl : List (Nat × AV)) {a b : Nat} {p q : List Rat} (hp : SB a p) (hq : SB b q) (tp : Lst p) (tq : Lst q) (lp : p.length <= 65) (lq : q.length <= 65) (hl : p.length + q.length <= 66) (h : a + b <= 1990) : Spec Tryz.prog gl 16 [polyV p,polyV q] (.tup [polyV (mulP p q),.int .i64 0]):=by
 obtain ⟨d,N,h1,h2,h3⟩:=hp
 obtain ⟨e,M,h4,h5,h6⟩:=hq
 have x1 : d * e <= 2 ^ (a + b):=by rw [Nat.pow_add]; exact Nat.mul_le_mul h1 h4
 have x2 : N * M <= 2 ^ (a + b):=by rw [Nat.pow_add]; exact Nat.mul_le_mul h2 h5
 have x3 : 2 ^ (a + b + 7) = 2 ^ (a + b) * 128:=Nat.pow_add ..
 have x4 : 2 ^ (a + b + 1) = 2 ^ (a + b) * 2:=Nat.pow_add ..
 have y1:=two_two a
 have y2:=two_two b
 refine Mul_any gl h3 h6 tp tq lp lq hl (sz_two (a:=a + 1) (b:=b + 1) (by omega) (by omega) (by omega)) (sz_two (a:=a + b + 7) (b:=a + b + 1) ?_ (by omega) (by omega))
 omega
theorem div_ex {a b : Nat} {p q : List Rat} (hp : SB a p) (hq : SB b q) (tp : Lst p) (tq : Lst q) (_lp : p.length <= 65) (h0 : 0 < q.length) (hs : 1 + a + (p.length + 1 - q.length) * (b + 1) <= 2000) :
  ∃ A R,DivR p q A R∧(∀ k,cf p k = cnv (cf A) (cf q) k + cf R k)∧R.length < q.length∧Lst R∧SB (a + (p.length + 1 - q.length) * (b + 1)) R:=by
 by_cases hl : p.length < q.length
 ·refine ⟨[],p,.short hl,fun k => ?_,hl,tp,?_⟩
  ·rw [show cnv (cf []) (cf q) k = 0 from psum_zero fun j _ => by rw [cf_out (p:=[]) (Nat.zero_le _),Rat.zero_mul],Rat.zero_add]
  ·rw [show p.length + 1 - q.length = 0 by omega,Nat.zero_mul]; exact hp
 ·have ql:=lst_at tq (k:=q.length - 1) (by omega)
  obtain ⟨D,N,h1,h2,h3⟩:=hp
  obtain ⟨e,M,h4,h5,h6⟩:=hq
  obtain ⟨c,hc,c0,cM⟩:=bd_lead h6 ql
  obtain ⟨m,hm⟩ : ∃ m,m = p.length + 1 - q.length:=⟨_,rfl⟩
  have hm' : p.length - (q.length - 1) = m:=by omega
  rw [<- hm] at hs
  have m1 : 1 <= m:=by omega
  have c1 : 1 <= c.natAbs:=by omega
  have fb:=fun (t j : Nat) => divF_gen (d:=q.length - 1) (m:=m) h3 h6 hc c0 cM t j
  have p1 : ∀ t,t <= m -> D * c.natAbs ^ t <= 2 ^ (a + m * (b + 1)):=fun t ht => by
   rw [Nat.pow_add]
   refine Nat.mul_le_mul h1 ?_
   rw [Nat.mul_comm m,Nat.pow_mul]
   refine Nat.le_trans (Nat.pow_le_pow_left (show c.natAbs <= 2 ^ (b + 1) by rw [<- two_two]; omega) t) (Nat.pow_le_pow_right (Nat.pow_pos (by decide)) ht)
  have p2 : ∀ t,t <= m -> N * (2 * M) ^ t <= 2 ^ (a + m * (b + 1)):=fun t ht => by
   rw [Nat.pow_add]
   refine Nat.mul_le_mul h2 ?_
   rw [Nat.mul_comm m,Nat.pow_mul]
   refine Nat.le_trans (Nat.pow_le_pow_left (show 2 * M <= 2 ^ (b + 1) by rw [<- two_two]; omega) t) (Nat.pow_le_pow_right (Nat.pow_pos (by decide)) ht)
  have p3 : ∀ t,t < m -> ∀ K,K <= M ∨ K <= 2 ^ b -> N * (2 * M) ^ t * K <= 2 ^ (a + m * (b + 1)):=fun t ht K hK => by
   have hK : K <= 2 ^ (b + 1):=by rw [<- two_two]; omega
   have e1 : 2 ^ (a + m * (b + 1)) = 2 ^ a * ((2 ^ (b + 1)) ^ (m - 1) * 2 ^ (b + 1)):=by
    rw [<- Nat.pow_succ,<- Nat.pow_mul,<- Nat.pow_add]; congr 2; rw [Nat.mul_comm]; congr 1; omega
   rw [e1,Nat.mul_assoc]
   refine Nat.mul_le_mul h2 (Nat.mul_le_mul ?_ hK)
   refine Nat.le_trans (Nat.pow_le_pow_left (show 2 * M <= 2 ^ (b + 1) by rw [<- two_two]; omega) t) (Nat.pow_le_pow_right (Nat.pow_pos (by decide)) (by omega))
  have z1:=two_two (a + m * (b + 1))
  have z2:=two_two b
  have bm : b + 1 <= m * (b + 1):=Nat.le_mul_of_pos_left _ m1
  have ok : DivOk p q:=by
   constructor
   ·rw [hm']
    intro t ht
    exact bd_fd (fb t _) (h6 _) (sz_two (a:=a + m * (b + 1) + 1) (b:=b + 1) (by have:=p1 t (by omega); have:=p2 t (by omega); omega) (by omega) (by omega)) ql
   ·rw [hm']
    intro t ht i hi
    have cb:=divX h6 hc c0 (fb t (m - 1 - t + (q.length - 1)))
    rw [Nat.mul_assoc,<- Nat.pow_succ] at cb
    have ec : divC p q (q.length - 1) m (m - 1 - t) = divF p q (q.length - 1) m t (m - 1 - t + (q.length - 1)) / cf q (q.length - 1):=by
     unfold divC
     rw [show m - 1 - (m - 1 - t) = t by omega]
    rw [ec]
    refine bd_fm cb (h6 i) (sz_two (a:=a + m * (b + 1) + 1) (b:=b + 1) ?_ (by omega) (by omega))
    have : D * c.natAbs ^ t.succ <= _:=p1 (t + 1) (by omega)
    have:=p3 t ht e (.inr h4)
    omega
   ·rw [hm']
    intro t ht i hi
    have cb:=divG h6 hc c0 (fb t (m - 1 - t + (q.length - 1))) (h6 i)
    rw [Nat.mul_assoc,<- Nat.pow_succ] at cb
    have ec : divC p q (q.length - 1) m (m - 1 - t) = divF p q (q.length - 1) m t (m - 1 - t + (q.length - 1)) / cf q (q.length - 1):=by
     unfold divC
     rw [show m - 1 - (m - 1 - t) = t by omega]
    rw [ec]
    refine bd_fs (fb t _) cb (sz_two (a:=a + m * (b + 1) + 1) (b:=a + m * (b + 1) + 1) ?_ ?_ (by omega))
    ·have:=p1 t (by omega); have:=p2 t (by omega); omega
    ·have : D * c.natAbs ^ t.succ <= _:=p1 (t + 1) (by omega)
     have:=p3 t ht M (.inl (Nat.le_refl _))
     omega
   ·intro r hr
    unfold divR0 at hr
    obtain ⟨j,hj,rfl⟩:=List.mem_map.1 hr
    rw [hm']
    refine (fb m j).rf ?_
    have:=p1 m (Nat.le_refl _)
    have:=p2 m (Nat.le_refl _)
    have:=sz_pow (a:=a + m * (b + 1) + 1) (by omega)
    omega
  have cl:=clip_len (divR0 p q)
  have rl : (divR0 p q).length = q.length - 1:=by unfold divR0; simp
  refine ⟨_,_,.long (by omega) ok,fun k => ?_,by omega,clip_lst _,?_⟩
  ·rw [cf_clip]; exact div_id h0 (by omega) ql k
  ·refine ⟨D * c.natAbs ^ m,N * (2 * M) ^ m,?_,?_,bdl_clip (bdl_of ?_ fun i hi => ?_)⟩
   ·rw [<- hm]; exact p1 m (Nat.le_refl _)
   ·rw [<- hm]; exact p2 m (Nat.le_refl _)
   ·exact (fb m 0).1
   ·rw [rl] at hi
    unfold divR0
    rw [cf_range hi,hm']
    exact fb m i
theorem cf_monP (p : List Rat) (i : Nat) : cf (monP p) i = cf p i / cf p (p.length - 1):=by
 by_cases h : i < p.length
 ·unfold monP
  simp [cf,List.getD,List.getElem?_eq_getElem h]
 ·rw [cf_out (by unfold monP; simp; omega),cf_out (p:=p) (by omega)]
  grind
theorem monP_len (p : List Rat) : (monP p).length = p.length:=by simp [monP]
theorem monP_lst {p : List Rat} (h : Lst p) : Lst (monP p):=by
 refine lst_of fun k hk => ?_
 rw [monP_len] at hk
 rw [cf_monP,hk]
 have:=lst_at h hk
 show cf p k / cf p k ≠ 0
 grind
theorem monP_one {p : List Rat} (h : Lst p) (h0 : 0 < p.length) : cf (monP p) (p.length - 1) = 1:=by
 rw [cf_monP]
 have:=lst_at h (k:=p.length - 1) (by omega)
 grind
theorem mon_ok {a : Nat} {p : List Rat} (h : SB a p) (ha : a <= 1999) (ht : Lst p) : MonOk p:=by
 obtain ⟨D,N,h1,h2,h3⟩:=h
 intro i hi
 have z:=two_two a
 exact bd_fd (h3 i) (h3 _) (sz_two (a:=a + 1) (b:=a + 1) (by omega) (by omega) (by omega)) (lst_at ht (by omega))
theorem mon_sb {a : Nat} {p : List Rat} (h : SB a p) (ht : Lst p) : SB a (monP p):=by
 by_cases h0 : p.length = 0
 ·rw [List.eq_nil_of_length_eq_zero h0]; exact sb_nil
 ·obtain ⟨D,N,h1,h2,h3⟩:=h
  have ql:=lst_at ht (k:=p.length - 1) (by omega)
  obtain ⟨c,hc,c0,cM⟩:=bd_lead h3 ql
  obtain ⟨e1,e2,e3⟩:=lead_eq h3 hc c0
  refine ⟨c.natAbs,N,by omega,h2,fun i => ?_⟩
  obtain ⟨_,n,hn,hN⟩:=h3 i
  have w:=(bd_int hN).div c0
  rw [Nat.one_mul] at w
  rw [cf_monP,e1]
  have : cf p i / ((c : Rat) / (D : Rat)) = (n : Rat) / (c : Rat):=by rw [<- hn]; grind
  rw [this]
  exact w
end Ab
end
section
open Go Go.Proofs
namespace Ab
set_option maxRecDepth 100000
set_option maxHeartbeats 1000000
def Scal (c c1 : List Rat) : Prop:=c1.length = c.length∧∃ α : Rat,α ≠ 0∧∀ k,cf c1 k = α * cf c k
theorem scal_refl (c : List Rat) : Scal c c:=⟨rfl,1,by decide,fun k => (Rat.one_mul _).symm⟩
theorem mulP_len0 {p q : List Rat} (hp : 0 < p.length) (hq : 0 < q.length) : (mulP p q).length = p.length + q.length - 1:=by
 unfold mulP
 rw [if_neg (by omega)]
 simp
theorem mulP_nil (q : List Rat) : mulP [] q = []:=if_pos (.inl rfl)
theorem mulP_top {p q : List Rat} (hp : 0 < p.length) (hq : 0 < q.length) : cf (mulP p q) ((mulP p q).length - 1) = cf p (p.length - 1) * cf q (q.length - 1):=by
 rw [mulP_len0 hp hq,cf_mulP,show p.length + q.length - 1 - 1 = (p.length - 1) + (q.length - 1) by omega]
 exact cnv_top (fun j hj => cf_out (by omega)) (fun j hj => cf_out (by omega))
theorem scal_lst {c c1 : List Rat} (h : Scal c c1) (hc : Lst c) : Lst c1:=by
 obtain ⟨hl,α,ha,hk⟩:=h
 refine lst_of fun k hk1 => ?_
 rw [hk]
 have:=lst_at hc (hl ▸ hk1)
 intro e
 rcases Rat.mul_eq_zero.1 e with e | e
 ·exact ha e
 ·exact this e
theorem monP_scal {p q : List Rat} (hl : p.length = q.length) {γ : Rat} (hg : γ ≠ 0) (h : ∀ k,cf p k = γ * cf q k) (tp : Lst p) (tq : Lst q) : monP p = monP q:=by
 refine lst_ext (monP_lst tp) (monP_lst tq) fun i => ?_
 rw [cf_monP,cf_monP,hl,h,h]
 by_cases h0 : q.length = 0
 ·rw [cf_out (p:=q) (i:=i) (by omega)]; grind
 ·have:=lst_at tq (k:=q.length - 1) (by omega)
  grind
theorem mul_monP {p c c1 : List Rat} (tp : Lst p) (hc : Scal c c1) (tc : Lst c) (c0 : 0 < c.length) : monP (mulP p c1) = mulP (monP p) (monP c):=by
 by_cases h0 : p.length = 0
 ·rw [List.eq_nil_of_length_eq_zero h0]
  show monP (mulP [] c1) = mulP (monP []) (monP c)
  rw [mulP_nil]
  exact (mulP_nil _).symm
 ·have tc1:=scal_lst hc tc
  obtain ⟨hl,α,ha,hk⟩:=hc
  have l1:=lst_at tp (k:=p.length - 1) (by omega)
  have l2:=lst_at tc (k:=c.length - 1) (by omega)
  refine lst_ext (monP_lst (mulP_lst tp tc1)) (mulP_lst (monP_lst tp) (monP_lst tc)) fun i => ?_
  rw [cf_monP,mulP_top (by omega) (by omega),cf_mulP,cf_mulP,hl]
  have e1 : cnv (cf p) (cf c1) i = α * cnv (cf p) (cf c) i:=by
   rw [show cf c1 = fun k => α * cf c k from funext hk,cnv_mulr α]
  have e2 : cnv (cf (monP p)) (cf (monP c)) i = 1 / cf p (p.length - 1) * (1 / cf c (c.length - 1) * cnv (cf p) (cf c) i):=by
   rw [show cf (monP p) = fun k => 1 / cf p (p.length - 1) * cf p k from funext fun k => by rw [cf_monP]; grind,
    show cf (monP c) = fun k => 1 / cf c (c.length - 1) * cf c k from funext fun k => by rw [cf_monP]; grind,
    cnv_mulc (1 / cf p (p.length - 1)),cnv_mulr (1 / cf c (c.length - 1))]
  rw [e1,e2,hk]
  grind
theorem div_scal {f g c c1 c2 A R A' R' : List Rat} (tg : Lst g) (g0 : 0 < g.length) (tc : Lst c) (c0 : 0 < c.length) (h1 : Scal c c1) (h2 : Scal c c2)
  (hd : ∀ k,cf f k = cnv (cf A) (cf g) k + cf R k) (hr : R.length < g.length) (tr : Lst R)
  (hd' : ∀ k,cf (mulP f c1) k = cnv (cf A') (cf (mulP g c2)) k + cf R' k) (hr' : R'.length < (mulP g c2).length) (tr' : Lst R') : R' = mulP R c1:=by
 have t1:=scal_lst h1 tc
 have t2:=scal_lst h2 tc
 obtain ⟨l1,α,ha,k1⟩:=h1
 obtain ⟨l2,β,hb,k2⟩:=h2
 have lg:=mulP_len0 (p:=g) (q:=c2) g0 (by omega)
 have ec : cf c1 = fun k => α / β * cf c2 k:=funext fun k => by rw [k1,k2]; grind
 have hA : ∀ k,cnv (cnv (cf A) (cf g)) (cf c1) k = cnv (fun i => α / β * cf A i) (cf (mulP g c2)) k:=fun k => by
  rw [cnv_mulc (α / β),ec,cnv_mulr (α / β),show cf (mulP g c2) = cnv (cf g) (cf c2) from funext fun i => cf_mulP g c2 i,cnv_assoc]
 have key : ∀ k,cnv (fun i => cf A' i - α / β * cf A i) (cf (mulP g c2)) k = cf (mulP R c1) k - cf R' k:=fun k => by
  rw [cnv_subl (cf (mulP g c2)) (cf A') (fun i => α / β * cf A i),<- hA]
  have e1:=hd' k
  rw [cf_mulP,show cf f = fun i => cnv (cf A) (cf g) i + cf R i from funext hd,cnv_addl (cf c1) (cnv (cf A) (cf g)) (cf R)] at e1
  rw [cf_mulP R c1]
  grind
 have hz:=mul_short (r:=fun k => cf (mulP R c1) k - cf R' k) ((fs_cf A').sub ((fs_cf A).scale _)) key (lst_at (mulP_lst tg t2) (by omega)) (by omega) fun i hi => by
  show cf (mulP R c1) i - cf R' i = 0
  rw [cf_out (p:=R') (by omega),cf_out (p:=mulP R c1) ?_]
  ·grind
  ·by_cases r0 : R.length = 0
   ·rw [List.eq_nil_of_length_eq_zero r0,mulP_nil]; exact Nat.zero_le _
   ·rw [mulP_len0 (by omega) (by omega)]; omega
 refine lst_ext tr' (mulP_lst tr t1) fun k => ?_
 have:=key k
 rw [show (fun i => cf A' i - α / β * cf A i) = fun _ => 0 from funext hz,cnv_zerol] at this
 grind
def gok : Nat -> Nat -> Nat -> Nat -> Nat -> Nat -> Nat -> Bool
 | 0,_,_,_,_,_,_ => false
 | n + 1,cap,e,lf,lg,a,b => and (Nat.ble a cap) (or (Nat.beq lg 0) (and (Nat.ble (1 + (a + e) + (lf + 1 - lg) * (b + e + 1)) 1990) ((List.range lg).all fun l => gok n cap e lg l b (a + (lf + 1 - lg) * (b + 1)))))
theorem gok_cap {n cap e lf lg a b : Nat} (h : gok n cap e lf lg a b = true) : a <= cap:=by
 cases n with
 | zero => cases h
 | succ n =>
  simp only [gok,Bool.and_eq_true] at h
  exact Nat.le_of_ble_eq_true h.1
theorem gok_step {n cap e lf lg a b : Nat} (h : gok (n + 1) cap e lf lg a b = true) (h0 : 0 < lg) : 1 + (a + e) + (lf + 1 - lg) * (b + e + 1) <= 1990∧∀ l,l < lg -> gok n cap e lg l b (a + (lf + 1 - lg) * (b + 1)) = true:=by
 simp only [gok,Bool.and_eq_true,Bool.or_eq_true,List.all_eq_true,List.mem_range] at h
 rcases h.2 with h2 | h2
 ·have:=Nat.eq_of_beq_eq_true h2; omega
 ·exact ⟨Nat.le_of_ble_eq_true h2.1,h2.2⟩
theorem SBc {a e : Nat} {f c1 : List Rat} (hf : SB a f) (hc : SB e c1) (hl : f.length + c1.length <= 66) : SB (a + (e + 7)) (mulP f c1):=(hf.mul hc hl).mono (by omega)
theorem chain {cap e : Nat} (hcap : cap + e <= 1900) {c : List Rat} (tc : Lst c) (c0 : 0 < c.length) (sc : SB e c) (lc : c.length <= 30) :
  ∀ n {f g : List Rat} {a b : Nat} {c1 c2 : List Rat},gok n cap (e + 7) f.length g.length a b = true -> SB a f -> SB b g -> Lst f -> Lst g -> f.length <= 30 -> g.length <= 30 -> Scal c c1 -> Scal c c2 -> SB e c1 -> SB e c2 ->
   ∃ k h,GcdR k f g h∧GcdR k (mulP f c1) (mulP g c2) (monP (mulP h c))∧Alg f g h∧SB cap h∧Lst h∧h.length <= 30∧(h.length = 0 ∨ cf h (h.length - 1) = 1)
 | 0,_,_,_,_,_,_,h,_,_,_,_,_,_,_,_,_,_ => by cases h
 | n + 1,f,g,a,b,c1,c2,hok,sf,sg,tf,tg,lf,lg,k1,k2,s1,s2 => by
  have t1:=scal_lst k1 tc
  have t2:=scal_lst k2 tc
  have l1:=k1.1
  have l2:=k2.1
  have ac:=gok_cap hok
  by_cases g0 : g.length = 0
  ·have eg:=List.eq_nil_of_length_eq_zero g0
   subst eg
   have e1 : monP (mulP f c1) = monP (mulP (monP f) c):=by
    rw [mul_monP tf k1 tc c0]
    have:=mul_monP (monP_lst tf) (scal_refl c) tc c0
    rw [this]
    congr 1
    by_cases f0 : f.length = 0
    ·rw [List.eq_nil_of_length_eq_zero f0]; rfl
    ·have e:=lst_at tf (k:=f.length - 1) (by omega)
     exact monP_scal (monP_len f).symm e (fun k => by rw [cf_monP]; grind) tf (monP_lst tf)
   refine ⟨0,monP f,.done (by omega) (mon_ok sf (by omega) tf),?_,?_,(mon_sb sf tf).mono ac,monP_lst tf,by rw [monP_len]; omega,?_⟩
   ·rw [mulP_nil,<- e1]
    refine .done ?_ (mon_ok (SBc sf s1 (by omega)) (by omega) (mulP_lst tf t1))
    have:=mulP_len f c1
    omega
   ·refine alg_done (c:=1 / cf f (f.length - 1)) (l:=cf f (f.length - 1)) (fun k => by rw [cf_monP]; grind) fun k => ?_
    rw [cf_monP]
    by_cases f0 : f.length = 0
    ·rw [cf_out (p:=f) (i:=k) (by omega),cf_out (p:=f) (by omega)]; grind
    ·have e:=lst_at tf (k:=f.length - 1) (by omega)
     grind
   ·rw [monP_len]
    by_cases f0 : f.length = 0
    ·exact .inl f0
    ·exact .inr (monP_one tf (by omega))
  ·obtain ⟨hs,hall⟩:=gok_step hok (by omega)
   have hm : (f.length + 1 - g.length) * (b + 1) <= (f.length + 1 - g.length) * (b + (e + 7) + 1):=Nat.mul_le_mul_left _ (by omega)
   obtain ⟨A,R,dR,hid,hrl,tR,sR⟩:=div_ex sf sg tf tg (by omega) (by omega) (by omega)
   have lfc:=mulP_len f c1
   have lgc:=mulP_len0 (p:=g) (q:=c2) (by omega) (by omega)
   have lm : (mulP f c1).length + 1 - (mulP g c2).length <= f.length + 1 - g.length:=by
    by_cases f0 : f.length = 0
    ·rw [List.eq_nil_of_length_eq_zero f0,mulP_nil] at *
     simp
     omega
    ·have:=mulP_len0 (p:=f) (q:=c1) (by omega) (by omega)
     omega
   have hm2 : ((mulP f c1).length + 1 - (mulP g c2).length) * (b + (e + 7) + 1) <= (f.length + 1 - g.length) * (b + (e + 7) + 1):=Nat.mul_le_mul_right _ lm
   obtain ⟨A',R',dR',hid',hrl',tR',sR'⟩:=div_ex (SBc sf s1 (by omega)) (SBc sg s2 (by omega)) (mulP_lst tf t1) (mulP_lst tg t2) (by omega) (by omega) (by omega)
   have eR:=div_scal tg (by omega) tc c0 k1 k2 hid hrl tR hid' hrl' tR'
   obtain ⟨k,h,hk1,hk2,hA,hS,hT,hL,hM⟩:=chain hcap tc c0 sc lc n (f:=g) (g:=monP R) (c1:=c2) (c2:=monP c) (by rw [monP_len]; exact hall _ hrl) sg (mon_sb sR tR) tg (monP_lst tR) lg (by rw [monP_len]; omega) k2
    ⟨monP_len c,1 / cf c (c.length - 1),by have:=lst_at tc (k:=c.length - 1) (by omega); grind,fun k => by rw [cf_monP]; grind⟩ s2 (mon_sb sc tc)
   rw [<- mul_monP tR k1 tc c0,<- eR] at hk2
   refine ⟨k + 1,h,.step (by omega) (by omega) (by omega) dR (by omega) (mon_ok sR (by omega) tR) hk1,.step (by omega) (by omega) (by omega) dR' (by omega) (mon_ok sR' (by omega) tR') hk2,?_,hS,hT,hL,hM⟩
   refine alg_step (r':=monP R) (r:=cf R) (c:=1 / cf R (R.length - 1)) (l:=cf R (R.length - 1)) (fs_cf A) hid (fun k => by rw [cf_monP]; grind) (fun k => ?_) hA
   rw [cf_monP]
   by_cases f0 : R.length = 0
   ·rw [cf_out (p:=R) (i:=k) (by omega),cf_out (p:=R) (by omega)]; grind
   ·have e:=lst_at tR (k:=R.length - 1) (by omega)
    grind
end Ab
end
