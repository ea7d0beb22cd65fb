import Derived.Test.YtpjjbhhoagocjaaGreatDoorXBdC
namespace Ab
def dif (f : Nat -> Rat) : Nat -> Rat:=fun i => (((i + 1 : Nat) : Int) : Rat) * f (i + 1)
def eul (f : Nat -> Rat) : Nat -> Rat:=fun i => ((i : Int) : Rat) * f i
theorem cnv_mulr (c : Rat) (f g : Nat -> Rat) (k : Nat) : cnv f (fun i => c * g i) k = c * cnv f g k:=by
 unfold cnv
 rw [<- psum_mul]
 exact psum_congr fun i _ => by grind
theorem eul_cnv (f g : Nat -> Rat) (n : Nat) : cnv (eul f) g n + cnv f (eul g) n = ((n : Int) : Rat) * cnv f g n:=by
 unfold cnv
 rw [<- psum_add,<- psum_mul]
 refine psum_congr fun i hi => ?_
 unfold eul
 have e : ((n : Int) : Rat) = ((i : Int) : Rat) + (((n - i : Nat) : Int) : Rat):=by
  rw [<- Rat.intCast_add]; congr 1; omega
 rw [e]; grind
theorem dif_cnv (f g : Nat -> Rat) (k : Nat) : dif (cnv f g) k = cnv (dif f) g k + cnv f (dif g) k:=by
 have h:=eul_cnv f g (k + 1)
 rw [cnv_front (eul f),cnv_back f (eul g)] at h
 have e0 : ∀ f : Nat -> Rat,eul f 0 = 0:=fun f => by unfold eul; exact Rat.zero_mul _
 rw [e0,e0] at h
 have s : ∀ f : Nat -> Rat,shf (eul f) = dif f:=fun f => rfl
 rw [s,s] at h
 show (((k + 1 : Nat) : Int) : Rat) * cnv f g (k + 1) = _
 rw [<- h]; grind
def one0 : Nat -> Rat:=fun k => if k = 0 then 1 else 0
def pw (q : Nat -> Rat) : Nat -> Nat -> Rat
 | 0 => one0
 | i + 1 => cnv (pw q i) q
theorem cnv_one (g : Nat -> Rat) (k : Nat) : cnv one0 g k = g k:=by
 cases k with
 | zero => rw [cnv_zero]; show 1 * g 0 = g 0; exact Rat.one_mul _
 | succ k =>
  rw [cnv_front]
  have : cnv (shf one0) g k = 0:=psum_zero fun i _ => by
   show (if i + 1 = 0 then (1 : Rat) else 0) * _ = 0
   rw [if_neg (by omega),Rat.zero_mul]
  rw [this]
  show 1 * g (k + 1) + 0 = g (k + 1)
  rw [Rat.one_mul,Rat.add_zero]
theorem dif_pw0 (q : Nat -> Rat) (k : Nat) : dif (pw q 0) k = 0:=by
 show _ * (if k + 1 = 0 then (1 : Rat) else 0) = 0
 rw [if_neg (by omega),Rat.mul_zero]
theorem dif_pw (q : Nat -> Rat) : ∀ i k,dif (pw q (i + 1)) k = (((i + 1 : Nat) : Int) : Rat) * cnv (pw q i) (dif q) k
 | 0,k => by
  show dif (cnv (pw q 0) q) k = _
  rw [dif_cnv]
  have : cnv (dif (pw q 0)) q k = 0:=psum_zero fun i _ => by rw [dif_pw0,Rat.zero_mul]
  rw [this,Rat.zero_add]
  exact (Rat.one_mul _).symm
 | i + 1,k => by
  show dif (cnv (pw q (i + 1)) q) k = _
  rw [dif_cnv,cnv_congr (fun j => dif_pw q i j) (fun _ => rfl),cnv_mulc (((i + 1 : Nat) : Int) : Rat)]
  have e : cnv (cnv (pw q i) (dif q)) q k = cnv (pw q (i + 1)) (dif q) k:=by
   show _ = cnv (cnv (pw q i) q) (dif q) k
   rw [<- cnv_assoc,<- cnv_assoc]
   exact cnv_congr (fun _ => rfl) fun j => cnv_comm _ _ j
  rw [e]
  have : (((i + 1 + 1 : Nat) : Int) : Rat) = (((i + 1 : Nat) : Int) : Rat) + 1:=by
   show ((((i + 1 : Nat) : Int) + 1 : Int) : Rat) = _
   rw [Rat.intCast_add]; rfl
  rw [this]; grind
theorem psum_dist (c : Rat) (f : Nat -> Rat) (n : Nat) : psum n f * c = psum n fun i => f i * c:=by
 rw [Rat.mul_comm,<- psum_mul]
 exact psum_congr fun i _ => Rat.mul_comm _ _
end Ab
