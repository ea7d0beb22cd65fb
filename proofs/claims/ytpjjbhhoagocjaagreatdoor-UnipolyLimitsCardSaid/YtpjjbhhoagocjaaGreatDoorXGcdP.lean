namespace Ab
theorem two_odd (x : Nat) (h : 0 < x) : ∃ t y : Nat,x = 2 ^ t * y∧y % 2 = 1:=by
 induction x using Nat.strongRecOn with
 | _ x ih =>
  by_cases h2 : x % 2 = 1
  ·exact ⟨0,x,by omega,h2⟩
  ·obtain ⟨t,y,e,hy⟩:=ih (x / 2) (by omega) (by omega)
   exact ⟨t + 1,y,by rw [Nat.pow_succ,Nat.mul_assoc,Nat.mul_left_comm,<- e]; omega,hy⟩
theorem odd_bit0 {t y i : Nat} (h : i < t) : 2 ^ t * y / 2 ^ i % 2 = 0:=by
 obtain ⟨k,rfl⟩ : ∃ k,t = i + (1 + k):=⟨t - i - 1,by omega⟩
 rw [Nat.pow_add,Nat.pow_add,Nat.pow_one,Nat.mul_assoc,Nat.mul_div_cancel_left _ (Nat.pow_pos (by decide)),Nat.mul_assoc,Nat.mul_mod_right]
theorem odd_bit1 {t y : Nat} : 2 ^ t * y / 2 ^ t = y:=Nat.mul_div_cancel_left _ (Nat.pow_pos (by decide))
theorem gcd_two {t z y : Nat} (hy : y % 2 = 1) : Nat.gcd (2 ^ t * z) y = Nat.gcd z y:=by
 refine Nat.Coprime.gcd_mul_left_cancel z (Nat.Coprime.pow_left t ?_)
 show Nat.gcd 2 y = 1
 rw [Nat.gcd_rec,hy]
 decide
theorem gcd_both_le {s t x y : Nat} (h : s <= t) (hx : x % 2 = 1) : Nat.gcd (2 ^ s * x) (2 ^ t * y) = Nat.gcd x y * 2 ^ s:=by
 obtain ⟨k,rfl⟩ : ∃ k,t = s + k:=⟨t - s,by omega⟩
 rw [Nat.pow_add,Nat.mul_assoc,Nat.gcd_mul_left,Nat.gcd_comm x,gcd_two hx,Nat.gcd_comm y,Nat.mul_comm]
theorem gcd_both {s t x y : Nat} (hx : x % 2 = 1) (hy : y % 2 = 1) : Nat.gcd (2 ^ s * x) (2 ^ t * y) = Nat.gcd x y * 2 ^ min s t:=by
 by_cases h : s <= t
 ·rw [gcd_both_le h hx,Nat.min_eq_left h]
 ·rw [Nat.gcd_comm,gcd_both_le (by omega) hy,Nat.min_eq_right (by omega),Nat.gcd_comm]
theorem gcd_round {x y : Nat} (h : y < x) (hx : x % 2 = 1) (hy : y % 2 = 1) : ∃ t z : Nat,x - y = 2 ^ t * z∧z % 2 = 1∧Nat.gcd z y = Nat.gcd x y∧z < x:=by
 obtain ⟨t,z,e,hz⟩:=two_odd (x - y) (by omega)
 refine ⟨t,z,e,hz,?_,?_⟩
 ·rw [<- gcd_two (t:=t) hy,<- e,Nat.gcd_sub_self_left (by omega)]
 ·have : 1 * z <= 2 ^ t * z:=Nat.mul_le_mul_right _ (Nat.pow_pos (by decide))
  omega
end Ab
