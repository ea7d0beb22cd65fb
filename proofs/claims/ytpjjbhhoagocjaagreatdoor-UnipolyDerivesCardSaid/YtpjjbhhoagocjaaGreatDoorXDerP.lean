import Derived.Test.YtpjjbhhoagocjaaGreatDoorXBdC
namespace Ab
def dif (f : Nat -> Rat) : Nat -> Rat:=fun i => (((i + 1 : Nat) : Int) : Rat) * f (i + 1)
def eul (f : Nat -> Rat) : Nat -> Rat:=fun i => ((i : Int) : Rat) * f i
theorem eul_cnv (f g : Nat -> Rat) (n : Nat) : cnv (eul f) g n + cnv f (eul g) n = ((n : Int) : Rat) * cnv f g n:=by
 unfold cnv
 rw [<- psum_add,<- psum_mul]
 refine psum_congr fun i hi => ?_
 unfold eul
 have e : ((n : Int) : Rat) = ((i : Int) : Rat) + (((n - i : Nat) : Int) : Rat):=by
  rw [<- Rat.intCast_add]; congr 1; omega
 rw [e]; grind
theorem dif_cnv (f g : Nat -> Rat) (k : Nat) : dif (cnv f g) k = cnv (dif f) g k + cnv f (dif g) k:=by
 have h:=eul_cnv f g (k + 1)
 rw [cnv_front (eul f),cnv_back f (eul g)] at h
 have e0 : ∀ f : Nat -> Rat,eul f 0 = 0:=fun f => by unfold eul; exact Rat.zero_mul _
 rw [e0,e0] at h
 have s : ∀ f : Nat -> Rat,shf (eul f) = dif f:=fun f => rfl
 rw [s,s] at h
 show (((k + 1 : Nat) : Int) : Rat) * cnv f g (k + 1) = _
 rw [<- h]; grind
def one0 : Nat -> Rat:=fun k => if k = 0 then 1 else 0
def pw (q : Nat -> Rat) : Nat -> Nat -> Rat
 | 0 => one0
 | i + 1 => cnv (pw q i) q
theorem dif_pw0 (q : Nat -> Rat) (k : Nat) : dif (pw q 0) k = 0:=by
 show _ * (if k + 1 = 0 then (1 : Rat) else 0) = 0
 rw [if_neg (by omega),Rat.mul_zero]
theorem dif_pw (q : Nat -> Rat) : ∀ i k,dif (pw q (i + 1)) k = (((i + 1 : Nat) : Int) : Rat) * cnv (pw q i) (dif q) k
 | 0,k => by
  show dif (cnv (pw q 0) q) k = _
  rw [dif_cnv]
  have : cnv (dif (pw q 0)) q k = 0:=psum_zero fun i _ => by rw [dif_pw0,Rat.zero_mul]
  rw [this,Rat.zero_add]
  exact (Rat.one_mul _).symm
 | i + 1,k => by
  show dif (cnv (pw q (i + 1)) q) k = _
  rw [dif_cnv,cnv_congr (fun j => dif_pw q i j) (fun _ => rfl),cnv_mulc (((i + 1 : Nat) : Int) : Rat)]
  have e : cnv (cnv (pw q i) (dif q)) q k = cnv (pw q (i + 1)) (dif q) k:=by
   show _ = cnv (cnv (pw q i) q) (dif q) k
   rw [<- cnv_assoc,<- cnv_assoc]
   exact cnv_congr (fun _ => rfl) fun j => cnv_comm _ _ j
  rw [e]
  have : (((i + 1 + 1 : Nat) : Int) : Rat) = (((i + 1 : Nat) : Int) : Rat) + 1:=by
   show ((((i + 1 : Nat) : Int) + 1 : Int) : Rat) = _
   rw [Rat.intCast_add]; rfl
  rw [this]; grind
def cmpF (p q : Nat -> Rat) (n k : Nat) : Rat:=psum n fun i => p i * pw q i k
theorem cnv_psum (p : Nat -> Rat) (F : Nat -> Nat -> Rat) (g : Nat -> Rat) (k : Nat) : ∀ n,cnv (fun j => psum n fun i => p i * F i j) g k = psum n fun i => p i * cnv (F i) g k
 | 0 => psum_zero fun i _ => Rat.zero_mul _
 | n + 1 => by
  show cnv (fun j => (psum n fun i => p i * F i j) + p n * F n j) g k = (psum n fun i => p i * cnv (F i) g k) + p n * cnv (F n) g k
  rw [cnv_addl g (fun j => psum n fun i => p i * F i j) (fun j => p n * F n j),cnv_psum p F g k n,cnv_mulc (p n) (F n)]
theorem cmpF_front (p q : Nat -> Rat) (n k : Nat) : cmpF p q (n + 1) k = cnv (cmpF (shf p) q n) q k + p 0 * one0 k:=by
 have h : cnv (cmpF (shf p) q n) q k = psum n fun i => shf p i * cnv (pw q i) q k:=cnv_psum (shf p) (pw q) q k n
 rw [h]
 show psum (n + 1) (fun i => p i * pw q i k) = _
 rw [psum_front]
 show p 0 * one0 k + _ = _
 rw [Rat.add_comm]
 rfl
theorem dif_cmp (p q : Nat -> Rat) (n k : Nat) : dif (cmpF p q (n + 1)) k = cnv (cmpF (dif p) q n) (dif q) k:=by
 have h : cnv (cmpF (dif p) q n) (dif q) k = psum n fun i => dif p i * cnv (pw q i) (dif q) k:=cnv_psum (dif p) (pw q) (dif q) k n
 rw [h]
 show (((k + 1 : Nat) : Int) : Rat) * psum (n + 1) (fun i => p i * pw q i (k + 1)) = _
 rw [<- psum_mul,psum_front]
 have e0 : (((k + 1 : Nat) : Int) : Rat) * (p 0 * pw q 0 (k + 1)) = 0:=by
  have:=dif_pw0 q k
  unfold dif at this
  calc _ = p 0 * ((((k + 1 : Nat) : Int) : Rat) * pw q 0 (k + 1)):=by grind
   _ = 0:=by rw [this,Rat.mul_zero]
 rw [e0,Rat.zero_add]
 refine psum_congr fun i _ => ?_
 have:=dif_pw q i k
 unfold dif at this ⊢
 calc _ = p (i + 1) * ((((k + 1 : Nat) : Int) : Rat) * pw q (i + 1) (k + 1)):=by grind
  _ = _:=by rw [this]; grind
end Ab
