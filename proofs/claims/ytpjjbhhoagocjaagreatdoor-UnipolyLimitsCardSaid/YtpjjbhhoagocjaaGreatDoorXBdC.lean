import Derived.Test.YtpjjbhhoagocjaaGreatDoorXPoly
namespace Ab
def SZ : Nat:=2 ^ 4000
def Bd (d N : Nat) (r : Rat) : Prop:=0 < d∧∃ n : Int,r * (d : Rat) = (n : Rat)∧n.natAbs <= N
theorem Bd.eq {d N : Nat} {r : Rat} (h : Bd d N r) : ∃ n : Int,r = Rat.divInt n d∧n.natAbs <= N:=by
 obtain ⟨h0,n,h1,h2⟩:=h
 refine ⟨n,?_,h2⟩
 rw [Rat.divInt_eq_div]
 have : ((d : Int) : Rat) ≠ 0:=by
  intro e
  have:=Rat.intCast_inj.1 (e.trans Rat.intCast_zero.symm)
  omega
 have e : ((d : Int) : Rat) = (d : Rat):=rfl
 rw [e] at this ⊢
 grind
theorem Bd.fit {d N : Nat} {r : Rat} (h : Bd d N r) : r.num.natAbs <= N∧r.den <= d:=by
 obtain ⟨n,h1,h2⟩:=h.eq
 have h0:=h.1
 rw [h1,Rat.num_divInt,Rat.den_divInt,if_neg (by omega)]
 constructor
 ·refine Nat.le_trans ?_ h2
  rw [Int.sign_eq_one_of_pos (by omega),Int.one_mul,Int.natAbs_ediv_of_dvd (Int.gcd_dvd_right ..)]
  exact Nat.div_le_self _ _
 ·exact Nat.div_le_self _ _
theorem bd_int {n : Int} {N : Nat} (h : n.natAbs <= N) : Bd 1 N (n : Rat):=⟨by decide,n,Rat.mul_one _,h⟩
theorem bd_zero {d N : Nat} (h : 0 < d) : Bd d N 0:=⟨h,0,by rw [Rat.zero_mul]; rfl,by simp⟩
theorem Bd.add {d N M : Nat} {a b : Rat} (ha : Bd d N a) (hb : Bd d M b) : Bd d (N + M) (a + b):=by
 obtain ⟨h0,n,h1,h2⟩:=ha
 obtain ⟨_,m,h3,h4⟩:=hb
 exact ⟨h0,n + m,by rw [Rat.add_mul,h1,h3,Rat.intCast_add],by omega⟩
theorem Bd.sub {d N M : Nat} {a b : Rat} (ha : Bd d N a) (hb : Bd d M b) : Bd d (N + M) (a - b):=by
 obtain ⟨h0,n,h1,h2⟩:=ha
 obtain ⟨_,m,h3,h4⟩:=hb
 exact ⟨h0,n - m,by rw [Rat.intCast_sub]; grind,by omega⟩
theorem Bd.mul {d e N M : Nat} {a b : Rat} (ha : Bd d N a) (hb : Bd e M b) : Bd (d * e) (N * M) (a * b):=by
 obtain ⟨h0,n,h1,h2⟩:=ha
 obtain ⟨h5,m,h3,h4⟩:=hb
 exact ⟨Nat.mul_pos h0 h5,n * m,by rw [Rat.intCast_mul,Rat.natCast_mul]; grind,by rw [Int.natAbs_mul]; exact Nat.mul_le_mul h2 h4⟩
theorem Bd.mono {d N M : Nat} {a : Rat} (ha : Bd d N a) (h : N <= M) : Bd d M a:=by
 obtain ⟨h0,n,h1,h2⟩:=ha
 exact ⟨h0,n,h1,by omega⟩
theorem Bd.wide {d N : Nat} {a : Rat} (e : Nat) (ha : Bd d N a) (h : 0 < e) : Bd (d * e) (N * e) a:=by
 obtain ⟨h0,n,h1,h2⟩:=ha
 refine ⟨Nat.mul_pos h0 h,n * e,by rw [Rat.intCast_mul,Rat.natCast_mul]; show a * (d * e) = n * (e : Rat); grind,by rw [Int.natAbs_mul]; exact Nat.mul_le_mul_right _ h2⟩
theorem Bd.div {d N : Nat} {a : Rat} {c : Int} (ha : Bd d N a) (h : c ≠ 0) : Bd (d * c.natAbs) N (a / (c : Rat)):=by
 obtain ⟨h0,n,h1,h2⟩:=ha
 have hc : (c : Rat) ≠ 0:=fun e => h (Rat.intCast_inj.1 (e.trans Rat.intCast_zero.symm))
 refine ⟨Nat.mul_pos h0 (by omega),c.sign * n,?_,?_⟩
 ·have e : ((c.natAbs : Nat) : Rat) = (c : Rat) * (c.sign : Rat):=by
   rw [<- Rat.intCast_mul]
   show (((c.natAbs : Nat) : Int) : Rat) = _
   congr 1
   exact (Int.mul_sign_self c).symm
  rw [Rat.natCast_mul,Rat.intCast_mul,e]
  grind
 ·rw [Int.natAbs_mul]
  have : c.sign.natAbs <= 1:=by
   rcases Int.lt_trichotomy c 0 with h | h | h
   ·rw [Int.sign_eq_neg_one_of_neg h]; decide
   ·omega
   ·rw [Int.sign_eq_one_of_pos h]; decide
  calc _ <= 1 * N:=Nat.mul_le_mul this h2
   _ = N:=Nat.one_mul N
def cnv (f g : Nat -> Rat) (k : Nat) : Rat:=psum (k + 1) fun j => f j * g (k - j)
theorem psum_one {f : Nat -> Rat} {n m : Nat} (h : m < n) (hz : ∀ i,i < n -> i ≠ m -> f i = 0) : psum n f = f m:=by
 rw [psum_more (n:=m + 1) (m:=n) h fun i h1 h2 => hz i h2 (by omega)]
 show psum m f + f m = f m
 rw [psum_zero fun i hi => hz i (by omega) (by omega),Rat.zero_add]
end Ab
