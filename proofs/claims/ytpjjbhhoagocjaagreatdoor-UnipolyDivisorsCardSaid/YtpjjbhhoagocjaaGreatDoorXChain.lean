import Derived.Test.YtpjjbhhoagocjaaGreatDoorXDivG
open Go Go.Proofs
namespace Ab
set_option maxRecDepth 100000
set_option maxHeartbeats 1000000
def Scal (c c1 : List Rat) : Prop:=c1.length = c.length ∧ ∃ α : Rat,α ≠ 0 ∧ ∀ k,cf c1 k = α * cf c k
theorem scal_refl (c : List Rat) : Scal c c:=⟨rfl,1,by decide,fun k => (Rat.one_mul _).symm⟩
theorem mulP_len0 {p q : List Rat} (hp : 0 < p.length) (hq : 0 < q.length) : (mulP p q).length = p.length + q.length - 1:=by
 unfold mulP
 rw [if_neg (by omega)]
 simp
theorem mulP_nil (q : List Rat) : mulP [] q = []:=if_pos (.inl rfl)
theorem mulP_top {p q : List Rat} (hp : 0 < p.length) (hq : 0 < q.length) : cf (mulP p q) ((mulP p q).length - 1) = cf p (p.length - 1) * cf q (q.length - 1):=by
 rw [mulP_len0 hp hq,cf_mulP,show p.length + q.length - 1 - 1 = (p.length - 1) + (q.length - 1) by omega]
 exact cnv_top (fun j hj => cf_out (by omega)) (fun j hj => cf_out (by omega))
theorem scal_lst {c c1 : List Rat} (h : Scal c c1) (hc : Lst c) : Lst c1:=by
 obtain ⟨hl,α,ha,hk⟩:=h
 refine lst_of fun k hk1 => ?_
 rw [hk]
 have:=lst_at hc (hl ▸ hk1)
 intro e
 rcases Rat.mul_eq_zero.1 e with e | e
 ·exact ha e
 ·exact this e
theorem monP_scal {p q : List Rat} (hl : p.length = q.length) {γ : Rat} (hg : γ ≠ 0) (h : ∀ k,cf p k = γ * cf q k) (tp : Lst p) (tq : Lst q) : monP p = monP q:=by
 refine lst_ext (monP_lst tp) (monP_lst tq) fun i => ?_
 rw [cf_monP,cf_monP,hl,h,h]
 by_cases h0 : q.length = 0
 ·rw [cf_out (p:=q) (i:=i) (by omega)]; grind
 ·have:=lst_at tq (k:=q.length - 1) (by omega)
  grind
theorem mul_monP {p c c1 : List Rat} (tp : Lst p) (hc : Scal c c1) (tc : Lst c) (c0 : 0 < c.length) : monP (mulP p c1) = mulP (monP p) (monP c):=by
 by_cases h0 : p.length = 0
 ·rw [List.eq_nil_of_length_eq_zero h0]
  show monP (mulP [] c1) = mulP (monP []) (monP c)
  rw [mulP_nil]
  exact (mulP_nil _).symm
 ·have tc1:=scal_lst hc tc
  obtain ⟨hl,α,ha,hk⟩:=hc
  have l1:=lst_at tp (k:=p.length - 1) (by omega)
  have l2:=lst_at tc (k:=c.length - 1) (by omega)
  refine lst_ext (monP_lst (mulP_lst tp tc1)) (mulP_lst (monP_lst tp) (monP_lst tc)) fun i => ?_
  rw [cf_monP,mulP_top (by omega) (by omega),cf_mulP,cf_mulP,hl]
  have e1 : cnv (cf p) (cf c1) i = α * cnv (cf p) (cf c) i:=by
   rw [show cf c1 = fun k => α * cf c k from funext hk,cnv_mulr α]
  have e2 : cnv (cf (monP p)) (cf (monP c)) i = 1 / cf p (p.length - 1) * (1 / cf c (c.length - 1) * cnv (cf p) (cf c) i):=by
   rw [show cf (monP p) = fun k => 1 / cf p (p.length - 1) * cf p k from funext fun k => by rw [cf_monP]; grind,
    show cf (monP c) = fun k => 1 / cf c (c.length - 1) * cf c k from funext fun k => by rw [cf_monP]; grind,
    cnv_mulc (1 / cf p (p.length - 1)),cnv_mulr (1 / cf c (c.length - 1))]
  rw [e1,e2,hk]
  grind
theorem div_scal {f g c c1 c2 A R A' R' : List Rat} (tg : Lst g) (g0 : 0 < g.length) (tc : Lst c) (c0 : 0 < c.length) (h1 : Scal c c1) (h2 : Scal c c2)
  (hd : ∀ k,cf f k = cnv (cf A) (cf g) k + cf R k) (hr : R.length < g.length) (tr : Lst R)
  (hd' : ∀ k,cf (mulP f c1) k = cnv (cf A') (cf (mulP g c2)) k + cf R' k) (hr' : R'.length < (mulP g c2).length) (tr' : Lst R') : R' = mulP R c1:=by
 have t1:=scal_lst h1 tc
 have t2:=scal_lst h2 tc
 obtain ⟨l1,α,ha,k1⟩:=h1
 obtain ⟨l2,β,hb,k2⟩:=h2
 have lg:=mulP_len0 (p:=g) (q:=c2) g0 (by omega)
 have ec : cf c1 = fun k => α / β * cf c2 k:=funext fun k => by rw [k1,k2]; grind
 have hA : ∀ k,cnv (cnv (cf A) (cf g)) (cf c1) k = cnv (fun i => α / β * cf A i) (cf (mulP g c2)) k:=fun k => by
  rw [cnv_mulc (α / β),ec,cnv_mulr (α / β),show cf (mulP g c2) = cnv (cf g) (cf c2) from funext fun i => cf_mulP g c2 i,cnv_assoc]
 have key : ∀ k,cnv (fun i => cf A' i - α / β * cf A i) (cf (mulP g c2)) k = cf (mulP R c1) k - cf R' k:=fun k => by
  rw [cnv_subl (cf (mulP g c2)) (cf A') (fun i => α / β * cf A i),<- hA]
  have e1:=hd' k
  rw [cf_mulP,show cf f = fun i => cnv (cf A) (cf g) i + cf R i from funext hd,cnv_addl (cf c1) (cnv (cf A) (cf g)) (cf R)] at e1
  rw [cf_mulP R c1]
  grind
 have hz:=mul_short (r:=fun k => cf (mulP R c1) k - cf R' k) ((fs_cf A').sub ((fs_cf A).scale _)) key (lst_at (mulP_lst tg t2) (by omega)) (by omega) fun i hi => by
  show cf (mulP R c1) i - cf R' i = 0
  rw [cf_out (p:=R') (by omega),cf_out (p:=mulP R c1) ?_]
  ·grind
  ·by_cases r0 : R.length = 0
   ·rw [List.eq_nil_of_length_eq_zero r0,mulP_nil]; exact Nat.zero_le _
   ·rw [mulP_len0 (by omega) (by omega)]; omega
 refine lst_ext tr' (mulP_lst tr t1) fun k => ?_
 have:=key k
 rw [show (fun i => cf A' i - α / β * cf A i) = fun _ => 0 from funext hz,cnv_zerol] at this
 grind
def gok : Nat -> Nat -> Nat -> Nat -> Nat -> Nat -> Nat -> Bool
 | 0,_,_,_,_,_,_ => false
 | n + 1,cap,e,lf,lg,a,b => and (Nat.ble a cap) (or (Nat.beq lg 0) (and (Nat.ble (1 + (a + e) + (lf + 1 - lg) * (b + e + 1)) 1990) ((List.range lg).all fun l => gok n cap e lg l b (a + (lf + 1 - lg) * (b + 1)))))
theorem gok_cap {n cap e lf lg a b : Nat} (h : gok n cap e lf lg a b = true) : a <= cap:=by
 cases n with
 | zero => cases h
 | succ n =>
  simp only [gok,Bool.and_eq_true] at h
  exact Nat.le_of_ble_eq_true h.1
theorem gok_step {n cap e lf lg a b : Nat} (h : gok (n + 1) cap e lf lg a b = true) (h0 : 0 < lg) : 1 + (a + e) + (lf + 1 - lg) * (b + e + 1) <= 1990 ∧ ∀ l,l < lg -> gok n cap e lg l b (a + (lf + 1 - lg) * (b + 1)) = true:=by
 simp only [gok,Bool.and_eq_true,Bool.or_eq_true,List.all_eq_true,List.mem_range] at h
 rcases h.2 with h2 | h2
 ·have:=Nat.eq_of_beq_eq_true h2; omega
 ·exact ⟨Nat.le_of_ble_eq_true h2.1,h2.2⟩
theorem SBc {a e : Nat} {f c1 : List Rat} (hf : SB a f) (hc : SB e c1) (hl : f.length + c1.length <= 66) : SB (a + (e + 7)) (mulP f c1):=(hf.mul hc hl).mono (by omega)
theorem chain {cap e : Nat} (hcap : cap + e <= 1900) {c : List Rat} (tc : Lst c) (c0 : 0 < c.length) (sc : SB e c) (lc : c.length <= 30) :
  ∀ n {f g : List Rat} {a b : Nat} {c1 c2 : List Rat},gok n cap (e + 7) f.length g.length a b = true -> SB a f -> SB b g -> Lst f -> Lst g -> f.length <= 30 -> g.length <= 30 -> Scal c c1 -> Scal c c2 -> SB e c1 -> SB e c2 ->
   ∃ k h,GcdR k f g h ∧ GcdR k (mulP f c1) (mulP g c2) (monP (mulP h c)) ∧ Alg f g h ∧ SB cap h ∧ Lst h ∧ h.length <= 30 ∧ (h.length = 0 ∨ cf h (h.length - 1) = 1)
 | 0,_,_,_,_,_,_,h,_,_,_,_,_,_,_,_,_,_ => by cases h
 | n + 1,f,g,a,b,c1,c2,hok,sf,sg,tf,tg,lf,lg,k1,k2,s1,s2 => by
  have t1:=scal_lst k1 tc
  have t2:=scal_lst k2 tc
  have l1:=k1.1
  have l2:=k2.1
  have ac:=gok_cap hok
  by_cases g0 : g.length = 0
  ·have eg:=List.eq_nil_of_length_eq_zero g0
   subst eg
   have e1 : monP (mulP f c1) = monP (mulP (monP f) c):=by
    rw [mul_monP tf k1 tc c0]
    have:=mul_monP (monP_lst tf) (scal_refl c) tc c0
    rw [this]
    congr 1
    by_cases f0 : f.length = 0
    ·rw [List.eq_nil_of_length_eq_zero f0]; rfl
    ·have e:=lst_at tf (k:=f.length - 1) (by omega)
     exact monP_scal (monP_len f).symm e (fun k => by rw [cf_monP]; grind) tf (monP_lst tf)
   refine ⟨0,monP f,.done (by omega) (mon_ok sf (by omega) tf),?_,?_,(mon_sb sf tf).mono ac,monP_lst tf,by rw [monP_len]; omega,?_⟩
   ·rw [mulP_nil,<- e1]
    refine .done ?_ (mon_ok (SBc sf s1 (by omega)) (by omega) (mulP_lst tf t1))
    have:=mulP_len f c1
    omega
   ·refine alg_done (c:=1 / cf f (f.length - 1)) (l:=cf f (f.length - 1)) (fun k => by rw [cf_monP]; grind) fun k => ?_
    rw [cf_monP]
    by_cases f0 : f.length = 0
    ·rw [cf_out (p:=f) (i:=k) (by omega),cf_out (p:=f) (by omega)]; grind
    ·have e:=lst_at tf (k:=f.length - 1) (by omega)
     grind
   ·rw [monP_len]
    by_cases f0 : f.length = 0
    ·exact .inl f0
    ·exact .inr (monP_one tf (by omega))
  ·obtain ⟨hs,hall⟩:=gok_step hok (by omega)
   have hm : (f.length + 1 - g.length) * (b + 1) <= (f.length + 1 - g.length) * (b + (e + 7) + 1):=Nat.mul_le_mul_left _ (by omega)
   obtain ⟨A,R,dR,hid,hrl,tR,sR⟩:=div_ex sf sg tf tg (by omega) (by omega) (by omega)
   have lfc:=mulP_len f c1
   have lgc:=mulP_len0 (p:=g) (q:=c2) (by omega) (by omega)
   have lm : (mulP f c1).length + 1 - (mulP g c2).length <= f.length + 1 - g.length:=by
    by_cases f0 : f.length = 0
    ·rw [List.eq_nil_of_length_eq_zero f0,mulP_nil] at *
     simp
     omega
    ·have:=mulP_len0 (p:=f) (q:=c1) (by omega) (by omega)
     omega
   have hm2 : ((mulP f c1).length + 1 - (mulP g c2).length) * (b + (e + 7) + 1) <= (f.length + 1 - g.length) * (b + (e + 7) + 1):=Nat.mul_le_mul_right _ lm
   obtain ⟨A',R',dR',hid',hrl',tR',sR'⟩:=div_ex (SBc sf s1 (by omega)) (SBc sg s2 (by omega)) (mulP_lst tf t1) (mulP_lst tg t2) (by omega) (by omega) (by omega)
   have eR:=div_scal tg (by omega) tc c0 k1 k2 hid hrl tR hid' hrl' tR'
   obtain ⟨k,h,hk1,hk2,hA,hS,hT,hL,hM⟩:=chain hcap tc c0 sc lc n (f:=g) (g:=monP R) (c1:=c2) (c2:=monP c) (by rw [monP_len]; exact hall _ hrl) sg (mon_sb sR tR) tg (monP_lst tR) lg (by rw [monP_len]; omega) k2
    ⟨monP_len c,1 / cf c (c.length - 1),by have:=lst_at tc (k:=c.length - 1) (by omega); grind,fun k => by rw [cf_monP]; grind⟩ s2 (mon_sb sc tc)
   rw [<- mul_monP tR k1 tc c0,<- eR] at hk2
   refine ⟨k + 1,h,.step (by omega) (by omega) (by omega) dR (by omega) (mon_ok sR (by omega) tR) hk1,.step (by omega) (by omega) (by omega) dR' (by omega) (mon_ok sR' (by omega) tR') hk2,?_,hS,hT,hL,hM⟩
   refine alg_step (r':=monP R) (r:=cf R) (c:=1 / cf R (R.length - 1)) (l:=cf R (R.length - 1)) (fs_cf A) hid (fun k => by rw [cf_monP]; grind) (fun k => ?_) hA
   rw [cf_monP]
   by_cases f0 : R.length = 0
   ·rw [cf_out (p:=R) (i:=k) (by omega),cf_out (p:=R) (by omega)]; grind
   ·have e:=lst_at tR (k:=R.length - 1) (by omega)
    grind
end Ab
