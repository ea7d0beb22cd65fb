import Derived.Test.YtpjjbhhoagocjaaGreatDoorXGz
import Derived.Test.YtpjjbhhoagocjaaGreatDoorXSane03
import Derived.Test.YtpjjbhhoagocjaaGreatDoorXDivP
open Go Go.Proofs
namespace Ab
set_option maxRecDepth 100000
set_option maxHeartbeats 1000000
def LC : Nat:=3099044504245996706400
def DC : Nat:=LC ^ 8
theorem lc_dvd {c : Nat} (h0 : 0 < c) (h : c <= 50) : c ∣ LC:=by
 have:=(by decide +kernel : ∀ c,c < 51 -> 0 < c -> LC % c = 0) c (by omega) h0
 exact Nat.dvd_of_mod_eq_zero this
theorem dc_wide {c t s : Nat} {x : Rat} (h0 : 0 < c) (h : c <= 50) (ht : t <= 8) (hs : s <= 8) (hx : Bd (c ^ t) (50 * 100 ^ s) x) : Bd DC (50 * 100 ^ 8 * DC) x:=by
 have h1 : c ^ t ∣ DC:=Nat.dvd_trans (Nat.pow_dvd_pow c ht) (Nat.pow_dvd_pow_iff (by decide) |>.2 (lc_dvd h0 h))
 obtain ⟨e,he⟩:=h1
 have hD : 0 < DC:=by decide +kernel
 have e0 : 0 < e:=by
  rcases Nat.eq_zero_or_pos e with h | h
  ·rw [h,Nat.mul_zero] at he; omega
  ·exact h
 have w:=hx.wide e e0
 rw [<- he] at w
 refine w.mono (Nat.mul_le_mul (Nat.mul_le_mul_left _ (Nat.pow_le_pow_right (by decide) hs)) ?_)
 rw [he]
 exact Nat.le_mul_of_pos_left _ (Nat.pow_pos h0)
theorem div_pb {p q : List Rat} (hp : PB 1 50 8 p) (hq : PB 1 50 8 q) (h0 : 0 < q.length) :
  ∃ a r,DivR p q a r ∧ PB DC (50 * 100 ^ 8 * DC) 8 a ∧ PB DC (50 * 100 ^ 8 * DC) 8 r ∧ r.length < q.length ∧ addP (mulP a q) r = p:=by
 have ql:=hq.l
 have pl:=hp.l
 have lead:=lst_at hq.t (k:=q.length - 1) (by omega)
 by_cases hl : p.length < q.length
 ·refine ⟨[],p,.short hl,pb_nil (by decide +kernel),⟨fun i => ?_,hp.t,hp.l⟩,hl,?_⟩
  ·exact dc_wide (c:=1) (t:=0) (s:=0) (by decide) (by decide) (by decide) (by decide) (hp.b i)
  ·refine lst_ext (merge_lst _ _ _) hp.t fun i => ?_
   rw [cf_addP,cf_mulP]
   rw [show cnv (cf []) (cf q) i = 0 from psum_zero fun j _ => by rw [cf_out (p:=[]) (Nat.zero_le _),Rat.zero_mul],Rat.zero_add]
 ·obtain ⟨c,hc,c50⟩:=bd_cast (hq.b (q.length - 1))
  have c0 : c ≠ 0:=by
   intro e
   rw [e] at hc
   exact lead hc
  have ok:=divOk_int hp.b hq.b (by omega) h0 hq.t
  refine ⟨_,_,.long (by omega) ok,⟨bdl_of (by decide +kernel) fun i hi => ?_,lst_of fun k hk => ?_,?_⟩,⟨bdl_clip (bdl_of (by decide +kernel) fun i hi => ?_),clip_lst _,?_⟩,?_,?_⟩
  ·unfold divQ at hi ⊢
   rw [List.length_map,List.length_range] at hi
   rw [cf_range hi]
   have:=divC_bd (m:=p.length - (q.length - 1)) hp.b hq.b hc c0 c50 i
   rw [<- Nat.pow_succ] at this
   exact dc_wide (by omega) c50 (by omega) (by omega) this
  ·have hk' : p.length - (q.length - 1) = k + 1:=by unfold divQ at hk; simpa using hk
   unfold divQ
   rw [cf_range (by omega)]
   unfold divC
   rw [show p.length - (q.length - 1) - 1 - k = 0 by omega,show k + (q.length - 1) = p.length - 1 by omega]
   show cf p (p.length - 1) / cf q (q.length - 1) ≠ 0
   have:=lst_at hp.t (k:=p.length - 1) (by omega)
   intro e
   apply this
   rw [<- Rat.div_mul_cancel (a:=cf p (p.length - 1)) lead,e,Rat.zero_mul]
  ·unfold divQ; simp; omega
  ·unfold divR0 at hi ⊢
   rw [List.length_map,List.length_range] at hi
   rw [cf_range hi]
   exact dc_wide (by omega) c50 (by omega) (by omega) (divF_bd hp.b hq.b hc c0 c50 _ _)
  ·have:=clip_len (divR0 p q)
   unfold divR0 at this ⊢
   simp at this
   omega
  ·have:=clip_len (divR0 p q)
   unfold divR0 at this ⊢
   simp at this
   omega
  ·refine lst_ext (merge_lst _ _ _) hp.t fun i => ?_
   rw [cf_addP,cf_mulP,cf_clip]
   exact (div_id h0 (by omega) lead i).symm
end Ab
