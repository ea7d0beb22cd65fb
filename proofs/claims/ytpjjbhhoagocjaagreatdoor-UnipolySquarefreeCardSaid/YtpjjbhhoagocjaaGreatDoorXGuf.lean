import Derived.Test.YtpjjbhhoagocjaaGreatDoorXGud
import Derived.Test.YtpjjbhhoagocjaaGreatDoorXDerP
import Derived.Test.YtpjjbhhoagocjaaGreatDoorXDivP
import Derived.Test.YtpjjbhhoagocjaaGreatDoorXGuc
import Derived.Test.YtpjjbhhoagocjaaGreatDoorXGz
section
open Go Go.Proofs
namespace Ab
set_option maxRecDepth 100000
set_option maxHeartbeats 1000000
theorem cf_derP (p : List Rat) (i : Nat) : cf (derP p) i = dif (cf p) i:=by
 unfold derP derK
 rw [cf_rng]
 split
 ·rfl
 ·unfold dif
  rw [cf_out (p:=p) (i:=i + 1) (by omega),Rat.mul_zero]
theorem derP_len (p : List Rat) : (derP p).length = p.length - 1:=derK_len p _
theorem derP_pb {N n : Nat} {p : List Rat} (h : PB 1 N n p) : PB 1 (n * N) (n - 1) (derP p):=by
 have hl:=h.l
 refine ⟨bdl_of (by decide) fun i hi => ?_,lst_of fun k hk => ?_,by rw [derP_len]; omega⟩
 ·rw [derP_len] at hi
  rw [cf_derP]
  exact (bd_int (N:=n) (by omega)).mul (h.b (i + 1))
 ·rw [derP_len] at hk
  rw [cf_derP]
  unfold dif
  intro e
  rcases Rat.mul_eq_zero.1 e with e | e
  ·have:=Rat.intCast_inj.1 (e.trans Rat.intCast_zero.symm)
   omega
  ·exact lst_at h.t (k:=k + 1) (by omega) e
theorem Der_pb (gl : List (Nat × AV)) {N n : Nat} {p : List Rat} (h : PB 1 N n p) (hn : n <= 65) (hs : (65 + 1) * (N + 1) <= SZ) : Spec Tryz.prog gl 39 [polyV p] (.tup [polyV (derP p),.int .i64 0]):=by
 have hl:=h.l
 obtain ⟨_,s2,_⟩:=sz_all hs (by decide) (by decide)
 exact Derivative_spec gl (h.poly s2 hn) fun i hi => bd_fm (bd_int (N:=65) (by omega)) (h.b (i + 1)) hs
end Ab
end
section
open Go Go.Proofs
namespace Ab
set_option maxRecDepth 100000
set_option maxHeartbeats 1000000
end Ab
end
section
open Go Go.Proofs
namespace Ab
set_option maxRecDepth 100000
set_option maxHeartbeats 1000000
def rp (x : Rat) : Nat -> Rat
 | 0 => 1
 | i + 1 => rp x i * x
def hv (f : Nat -> Rat) (x : Rat) (n : Nat) : Rat:=psum n fun i => f i * rp x i
theorem hv_front (f : Nat -> Rat) (x : Rat) (n : Nat) : hv f x (n + 1) = hv (shf f) x n * x + f 0:=by
 unfold hv
 rw [psum_front,psum_dist]
 have : psum n (shf fun i => f i * rp x i) = psum n fun i => shf f i * rp x i * x:=psum_congr fun i _ => by
  show f (i + 1) * (rp x i * x) = f (i + 1) * rp x i * x
  rw [Rat.mul_assoc]
 rw [this,Rat.add_comm]
 show _ + f 0 * 1 = _
 rw [Rat.mul_one]
theorem hv_more {f : Nat -> Rat} {x : Rat} {n m : Nat} (h : n <= m) (hz : ∀ i,n <= i -> f i = 0) : hv f x m = hv f x n:=psum_more h fun i h1 _ => by rw [hz i h1,Rat.zero_mul]
theorem hv_add (f g : Nat -> Rat) (x : Rat) (n : Nat) : hv (fun i => f i + g i) x n = hv f x n + hv g x n:=by
 unfold hv
 rw [<- psum_add]
 exact psum_congr fun i _ => Rat.add_mul ..
theorem hv_scale (c : Rat) (f : Nat -> Rat) (x : Rat) (n : Nat) : hv (fun i => c * f i) x n = c * hv f x n:=by
 unfold hv
 rw [<- psum_mul]
 exact psum_congr fun i _ => Rat.mul_assoc ..
theorem hv_cnv {g : Nat -> Rat} {x : Rat} {m : Nat} (hg : ∀ i,m <= i -> g i = 0) : ∀ {n : Nat} {f : Nat -> Rat} {N : Nat},(∀ i,n <= i -> f i = 0) -> n + m <= N -> hv (cnv f g) x N = hv f x n * hv g x m
 | 0,f,N,hf,_ => by
  have : hv (cnv f g) x N = 0:=psum_zero fun i _ => by
   rw [show cnv f g i = 0 from psum_zero fun j _ => by rw [hf j (Nat.zero_le _),Rat.zero_mul],Rat.zero_mul]
  rw [this]
  exact (Rat.zero_mul _).symm
 | n + 1,f,N,hf,hN => by
  obtain ⟨N',rfl⟩ : ∃ N',N = N' + 1:=⟨N - 1,by omega⟩
  rw [hv_front,hv_front]
  have e : shf (cnv f g) = fun i => f 0 * shf g i + cnv (shf f) g i:=funext fun i => cnv_front f g i
  rw [e,hv_add (fun i => f 0 * shf g i) (cnv (shf f) g),hv_scale (f 0) (shf g),hv_cnv hg (n:=n) (f:=shf f) (fun i hi => hf (i + 1) (by omega)) (by omega),cnv_zero]
  have eg : hv g x m = hv (shf g) x N' * x + g 0:=by rw [<- hv_front,hv_more (n:=m) (m:=N' + 1) (by omega) hg]
  rw [eg]
  grind
end Ab
end
