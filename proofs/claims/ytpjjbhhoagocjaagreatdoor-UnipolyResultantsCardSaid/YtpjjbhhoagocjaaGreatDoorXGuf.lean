import Derived.Test.YtpjjbhhoagocjaaGreatDoorXGud
import Derived.Test.YtpjjbhhoagocjaaGreatDoorXDerP
import Derived.Test.YtpjjbhhoagocjaaGreatDoorXDivP
import Derived.Test.YtpjjbhhoagocjaaGreatDoorXGuc
import Derived.Test.YtpjjbhhoagocjaaGreatDoorXGz
section
open Go Go.Proofs
namespace Ab
set_option maxRecDepth 100000
set_option maxHeartbeats 1000000
end Ab
end
section
open Go Go.Proofs
namespace Ab
set_option maxRecDepth 100000
set_option maxHeartbeats 1000000
end Ab
end
section
open Go Go.Proofs
namespace Ab
set_option maxRecDepth 100000
set_option maxHeartbeats 1000000
def rp (x : Rat) : Nat -> Rat
 | 0 => 1
 | i + 1 => rp x i * x
def hv (f : Nat -> Rat) (x : Rat) (n : Nat) : Rat:=psum n fun i => f i * rp x i
theorem hv_front (f : Nat -> Rat) (x : Rat) (n : Nat) : hv f x (n + 1) = hv (shf f) x n * x + f 0:=by
 unfold hv
 rw [psum_front,psum_dist]
 have : psum n (shf fun i => f i * rp x i) = psum n fun i => shf f i * rp x i * x:=psum_congr fun i _ => by
  show f (i + 1) * (rp x i * x) = f (i + 1) * rp x i * x
  rw [Rat.mul_assoc]
 rw [this,Rat.add_comm]
 show _ + f 0 * 1 = _
 rw [Rat.mul_one]
theorem hv_more {f : Nat -> Rat} {x : Rat} {n m : Nat} (h : n <= m) (hz : ∀ i,n <= i -> f i = 0) : hv f x m = hv f x n:=psum_more h fun i h1 _ => by rw [hz i h1,Rat.zero_mul]
theorem hv_add (f g : Nat -> Rat) (x : Rat) (n : Nat) : hv (fun i => f i + g i) x n = hv f x n + hv g x n:=by
 unfold hv
 rw [<- psum_add]
 exact psum_congr fun i _ => Rat.add_mul ..
theorem hv_scale (c : Rat) (f : Nat -> Rat) (x : Rat) (n : Nat) : hv (fun i => c * f i) x n = c * hv f x n:=by
 unfold hv
 rw [<- psum_mul]
 exact psum_congr fun i _ => Rat.mul_assoc ..
theorem hv_cnv {g : Nat -> Rat} {x : Rat} {m : Nat} (hg : ∀ i,m <= i -> g i = 0) : ∀ {n : Nat} {f : Nat -> Rat} {N : Nat},(∀ i,n <= i -> f i = 0) -> n + m <= N -> hv (cnv f g) x N = hv f x n * hv g x m
 | 0,f,N,hf,_ => by
  have : hv (cnv f g) x N = 0:=psum_zero fun i _ => by
   rw [show cnv f g i = 0 from psum_zero fun j _ => by rw [hf j (Nat.zero_le _),Rat.zero_mul],Rat.zero_mul]
  rw [this]
  exact (Rat.zero_mul _).symm
 | n + 1,f,N,hf,hN => by
  obtain ⟨N',rfl⟩ : ∃ N',N = N' + 1:=⟨N - 1,by omega⟩
  rw [hv_front,hv_front]
  have e : shf (cnv f g) = fun i => f 0 * shf g i + cnv (shf f) g i:=funext fun i => cnv_front f g i
  rw [e,hv_add (fun i => f 0 * shf g i) (cnv (shf f) g),hv_scale (f 0) (shf g),hv_cnv hg (n:=n) (f:=shf f) (fun i hi => hf (i + 1) (by omega)) (by omega),cnv_zero]
  have eg : hv g x m = hv (shf g) x N' * x + g 0:=by rw [<- hv_front,hv_more (n:=m) (m:=N' + 1) (by omega) hg]
  rw [eg]
  grind
theorem hor_hv (p : List Rat) (x : Rat) : ∀ t,t <= p.length -> hor p x t = hv (fun i => cf p (p.length - t + i)) x t
 | 0,_ => rfl
 | t + 1,ht => by
  show hor p x t * x + cf p (p.length - 1 - t) = _
  rw [hv_front,hor_hv p x t (by omega)]
  have e : (shf fun i => cf p (p.length - (t + 1) + i)) = fun i => cf p (p.length - t + i):=funext fun i => by
   show cf p (p.length - (t + 1) + (i + 1)) = _
   rw [show p.length - (t + 1) + (i + 1) = p.length - t + i by omega]
  rw [e]
  show _ = _ + cf p (p.length - (t + 1) + 0)
  rw [show p.length - (t + 1) + 0 = p.length - 1 - t by omega]
def vl (x : Rat) (p : List Rat) : Rat:=hor p x p.length
theorem vl_hv (x : Rat) (p : List Rat) {N : Nat} (h : p.length <= N) : vl x p = hv (cf p) x N:=by
 unfold vl
 rw [hor_hv p x _ (Nat.le_refl _),hv_more h fun i hi => cf_out hi]
 have : (fun i => cf p (p.length - p.length + i)) = cf p:=funext fun i => by rw [Nat.sub_self,Nat.zero_add]
 rw [this]
theorem vl_add (x : Rat) (p q : List Rat) : vl x (addP p q) = vl x p + vl x q:=by
 have h:=merge_len (fun j => cf p j + cf q j) p q
 rw [vl_hv x (addP p q) (N:=max p.length q.length) h,vl_hv x p (N:=max p.length q.length) (by omega),vl_hv x q (N:=max p.length q.length) (by omega),<- hv_add]
 congr 1
 exact funext fun i => cf_addP p q i
theorem vl_mul (x : Rat) (p q : List Rat) : vl x (mulP p q) = vl x p * vl x q:=by
 have h:=mulP_len p q
 rw [vl_hv x (mulP p q) (N:=p.length + q.length) (by omega),vl_hv x p (Nat.le_refl _),vl_hv x q (Nat.le_refl _),show cf (mulP p q) = cnv (cf p) (cf q) from funext fun i => cf_mulP p q i]
 exact hv_cnv (fun i hi => cf_out hi) (fun i hi => cf_out hi) (Nat.le_refl _)
end Ab
end
