import Derived.Test.YtpjjbhhoagocjaaGreatDoorXBdC
namespace Ab
theorem psum_rev (f : Nat -> Rat) : ∀ n,psum n (fun i => f (n - 1 - i)) = psum n f
 | 0 => rfl
 | n + 1 => by
  rw [psum_front]
  show f (n + 1 - 1 - 0) + psum n (fun i => f (n + 1 - 1 - (i + 1))) = psum n f + f n
  rw [Nat.sub_zero,Nat.add_sub_cancel]
  have : psum n (fun i => f (n - (i + 1))) = psum n f:=by
   rw [<- psum_rev f n]
   exact psum_congr fun i _ => by rw [show n - (i + 1) = n - 1 - i by omega]
  rw [this]; grind
section
variable (p q : List Rat) (d m : Nat)
def dtm (k j : Nat) : Rat:=if k <= j then divC p q d m k * cf q (j - k) else 0
def dlf (t j : Nat) : Rat:=if j < m - t + d then divF p q d m t j else 0
theorem dlf_step (hq : q.length = d + 1) (hc : cf q d ≠ 0) {t : Nat} (ht : t < m) (j : Nat) : dlf p q d m t j = dlf p q d m (t + 1) j + dtm p q d m (m - 1 - t) j:=by
 obtain ⟨k,hk⟩ : ∃ k,k = m - 1 - t:=⟨_,rfl⟩
 have e1 : m - t + d = k + d + 1:=by omega
 have e2 : m - (t + 1) + d = k + d:=by omega
 have e3 : divC p q d m k = divF p q d m t (k + d) / cf q d:=by unfold divC; rw [show m - 1 - k = t by omega]
 unfold dlf dtm
 rw [e1,e2,<- hk]
 have es : divF p q d m (t + 1) j = if k <= j∧j < k + d then divF p q d m t j - divF p q d m t (k + d) / cf q d * cf q (j - k) else divF p q d m t j:=by
  rw [hk]; rfl
 by_cases c1 : k + d < j
 ·rw [if_neg (by omega),if_neg (by omega),if_pos (by omega),cf_out (p:=q) (i:=j - k) (by omega),Rat.mul_zero,Rat.add_zero]
 ·by_cases c2 : j = k + d
  ·rw [if_pos (by omega),if_neg (by omega),if_pos (by omega),e3,c2,show k + d - k = d by omega,Rat.zero_add,Rat.div_mul_cancel hc]
  ·rw [if_pos (by omega),if_pos (by omega),es]
   by_cases c3 : k <= j
   ·rw [if_pos ⟨c3,by omega⟩,if_pos c3,e3]
    grind
   ·rw [if_neg (by omega),if_neg c3,Rat.add_zero]
theorem dlf_sum (hq : q.length = d + 1) (hc : cf q d ≠ 0) (hp : p.length = m + d) (j : Nat) : ∀ t,t <= m -> cf p j = dlf p q d m t j + psum t fun s => dtm p q d m (m - 1 - s) j
 | 0,_ => by
  show _ = _ + (0 : Rat)
  rw [Rat.add_zero]
  unfold dlf
  by_cases h : j < m - 0 + d
  ·rw [if_pos h]; rfl
  ·rw [if_neg h,cf_out (by omega)]
 | t + 1,ht => by
  rw [dlf_sum hq hc hp j t (by omega),dlf_step p q d m hq hc (by omega)]
  show _ = _ + (psum t _ + _)
  grind
end
theorem cf_rng {f : Nat -> Rat} {n i : Nat} : cf ((List.range n).map f) i = if i < n then f i else 0:=by
 by_cases h : i < n
 ·simp [cf,List.getD,h]
 ·rw [if_neg h,cf_out (by simp; omega)]
theorem div_id {p q : List Rat} (hq : 0 < q.length) (hl : q.length <= p.length) (hc : cf q (q.length - 1) ≠ 0) (j : Nat) : cf p j = cnv (cf (divQ p q)) (cf q) j + cf (divR0 p q) j:=by
 obtain ⟨d,hd⟩ : ∃ d,d = q.length - 1:=⟨_,rfl⟩
 obtain ⟨m,hm⟩ : ∃ m,m = p.length - d:=⟨_,rfl⟩
 have hq' : q.length = d + 1:=by omega
 have hp' : p.length = m + d:=by omega
 unfold divQ divR0
 rw [<- hd] at hc ⊢
 rw [<- hm,dlf_sum p q d m hq' hc hp' j m (Nat.le_refl _),psum_rev (fun k => dtm p q d m k j) m,cf_rng,Rat.add_comm]
 congr 1
 ·have h1 : psum (max m (j + 1)) (fun k => if k < m then dtm p q d m k j else 0) = psum m fun k => dtm p q d m k j:=by
   rw [psum_more (n:=m) (by omega) fun i h1 _ => if_neg (by omega)]
   exact psum_congr fun i hi => if_pos hi
  have h2 : psum (max m (j + 1)) (fun k => if k < m then dtm p q d m k j else 0) = cnv (cf ((List.range m).map (divC p q d m))) (cf q) j:=by
   rw [psum_more (n:=j + 1) (by omega) fun i h1 _ => by
    split
    ·unfold dtm; rw [if_neg (by omega)]
    ·rfl]
   refine psum_congr fun i hi => ?_
   rw [cf_rng]
   split
   ·unfold dtm; rw [if_pos (by omega)]
   ·rw [Rat.zero_mul]
  rw [<- h1,h2]
 ·unfold dlf
  rw [Nat.sub_self,Nat.zero_add]
end Ab
