import Derived.Test.YtpjjbhhoagocjaaGreatDoorXSame
import Derived.Test.YtpjjbhhoagocjaaGreatDoorXRatDiv
open Go Go.Proofs
namespace Ab
set_option maxRecDepth 100000
set_option maxHeartbeats 1000000
def rv (r : Rat) : List AV:=qr r.num r.den
def rV (r : Rat) : AV:=.agg (rv r)
def RF (r : Rat) : Prop:=Fits r.num ∧ Fits (r.den : Int)
theorem rat_pos (r : Rat) : (0 : Int) < (r.den : Int):=by have:=r.den_nz; omega
theorem rat_gcd (r : Rat) : Int.gcd r.num (r.den : Int) = 1:=by
 have:=r.reduced
 unfold Nat.Coprime at this
 rw [Int.gcd_eq_natAbs_gcd_natAbs,Int.natAbs_natCast]; exact this
theorem rV_eq (r : Rat) : rV r = mkR r.num r.den:=rfl
theorem mk_red {n d : Int} (hd : 0 < d) : mkR (n / Int.gcd n d) (d / Int.gcd n d) = rV (Rat.divInt n d):=by
 rw [rV_eq,Rat.num_divInt,Rat.den_divInt,if_neg (by omega),Int.gcd_comm d n,Int.sign_eq_one_of_pos hd,Int.one_mul]
 congr 1
 have : ((d.natAbs / n.gcd d : Nat) : Int) = d / (n.gcd d : Int):=by
  rw [Int.natCast_ediv,Int.natAbs_of_nonneg (by omega)]
 exact this.symm
theorem rat_add (a b : Rat) : a + b = Rat.divInt (a.num * b.den + b.num * a.den) (a.den * b.den):=by
 have ha:=rat_pos a
 have hb:=rat_pos b
 conv => lhs; rw [<- Rat.num_divInt_den a,<- Rat.num_divInt_den b]
 rw [Rat.divInt_add_divInt _ _ (by omega) (by omega)]
theorem rat_sub (a b : Rat) : a - b = Rat.divInt (a.num * b.den - b.num * a.den) (a.den * b.den):=by
 have ha:=rat_pos a
 have hb:=rat_pos b
 conv => lhs; rw [<- Rat.num_divInt_den a,<- Rat.num_divInt_den b]
 rw [Rat.divInt_sub_divInt _ _ (by omega) (by omega)]
theorem rat_mul (a b : Rat) : a * b = Rat.divInt (a.num * b.num) (a.den * b.den):=by
 conv => lhs; rw [<- Rat.num_divInt_den a,<- Rat.num_divInt_den b]
 rw [Rat.divInt_mul_divInt]
theorem rat_div (a b : Rat) : a / b = Rat.divInt (a.num * b.den) (a.den * b.num):=by
 rw [Rat.div_def]
 conv => lhs; rw [<- Rat.num_divInt_den a,<- Rat.num_divInt_den b]
 rw [Rat.inv_divInt,Rat.divInt_mul_divInt]
def FA (a b : Rat) : Prop:=RF a ∧ RF b ∧ Fits (a.num * b.den) ∧ Fits (b.num * a.den) ∧ Fits (a.num * b.den + b.num * a.den) ∧ Fits ((a.den : Int) * b.den)
def FS (a b : Rat) : Prop:=RF a ∧ RF b ∧ Fits (a.num * b.den) ∧ Fits (b.num * a.den) ∧ Fits (a.num * b.den - b.num * a.den) ∧ Fits ((a.den : Int) * b.den)
def FM (a b : Rat) : Prop:=RF a ∧ RF b ∧ Fits (a.num * b.num) ∧ Fits ((a.den : Int) * b.den)
def FD (a b : Rat) : Prop:=RF a ∧ RF b ∧ b ≠ 0 ∧ Fits (a.num * b.den) ∧ Fits ((a.den : Int) * b.num)
section
variable (gl : List (Nat × AV))
theorem valid_rat {r : Rat} (h : RF r) : Spec Tryz.prog gl 61 [rV r] (.bool true):=ratvalid_int gl h.1 h.2 (rat_pos r) (rat_gcd r)
theorem add_rat {a b : Rat} (h : FA a b) : Spec Tryz.prog gl 42 [rV a,rV b] (.tup [rV (a + b),.int .i64 0]):=by
 obtain ⟨h1,h2,h3,h4,h5,h6⟩:=h
 have:=ratadd_int gl h1.1 h1.2 h2.1 h2.2 (rat_pos a) (rat_pos b) (rat_gcd a) (rat_gcd b) h3 h4 h5 h6
 rw [mk_red (Int.mul_pos (rat_pos a) (rat_pos b)),<- rat_add] at this
 exact this
theorem sub_rat {a b : Rat} (h : FS a b) : Spec Tryz.prog gl 86 [rV a,rV b] (.tup [rV (a - b),.int .i64 0]):=by
 obtain ⟨h1,h2,h3,h4,h5,h6⟩:=h
 have:=ratsub_int gl h1.1 h1.2 h2.1 h2.2 (rat_pos a) (rat_pos b) (rat_gcd a) (rat_gcd b) h3 h4 h5 h6
 rw [mk_red (Int.mul_pos (rat_pos a) (rat_pos b)),<- rat_sub] at this
 exact this
theorem mul_rat {a b : Rat} (h : FM a b) : Spec Tryz.prog gl 24 [rV a,rV b] (.tup [rV (a * b),.int .i64 0]):=by
 obtain ⟨h1,h2,h3,h4⟩:=h
 have:=ratmul_int gl h1.1 h1.2 h2.1 h2.2 (rat_pos a) (rat_pos b) (rat_gcd a) (rat_gcd b) h3 h4
 rw [mk_red (Int.mul_pos (rat_pos a) (rat_pos b)),<- rat_mul] at this
 exact this
theorem num_zero {b : Rat} (h : b ≠ 0) : b.num ≠ 0:=fun e => h (Rat.num_eq_zero.1 e)
theorem div_rat {a b : Rat} (h : FD a b) : Spec Tryz.prog gl 123 [rV a,rV b] (.tup [rV (a / b),.int .i64 0]):=by
 obtain ⟨h1,h2,h3,h4,h5⟩:=h
 have n0:=num_zero h3
 have d0:=rat_pos a
 have:=ratdiv_int gl h1.1 h1.2 h2.1 h2.2 d0 (rat_pos b) n0 (rat_gcd a) (rat_gcd b) h4 h5
 rw [rat_div]
 by_cases hp : 0 < (a.den : Int) * b.num
 ·rw [if_pos hp,mk_red hp] at this
  exact this
 ·rw [if_neg hp] at this
  have hne : (a.den : Int) * b.num ≠ 0:=Int.mul_ne_zero (by omega) n0
  have e : Int.gcd (a.num * b.den) (a.den * b.num) = Int.gcd (-(a.num * b.den)) (-(a.den * b.num)):=by rw [Int.gcd_neg,Int.neg_gcd]
  rw [e,mk_red (by omega),Rat.neg_divInt_neg] at this
  exact this
def sgR (r : Rat) : Int:=if r.num = 0 then 0 else if r.num < 0 then -1 else 1
theorem sgR_zero {r : Rat} : sgR r = 0 ↔ r = 0:=by
 unfold sgR
 rw [<- Rat.num_eq_zero]
 split
 ·simp [*]
 ·split <;> simp [*]
theorem sign_rat {r : Rat} (h : RF r) : Spec Tryz.prog gl 26 [rV r] (.int .i64 (sgR r)):=by
 have v:=valid_rat gl h
 have z:=qzero_spec gl (decide (r.num < 0)) (Dg.mag (az r.num))
 unfold rV rv at v ⊢
 refine spec_fn T_ok mixed_ok 0 Tryz.func26 fn_ok26 (by kernel_rfl) ?_
 first | refine Exists.intro _ (And.intro (v) ?_) | refine Hn_by (Exists.intro _ (And.intro (v) ?_))
 repeat (first | refine gT ?_ | refine gF ?_ | refine brT ?_ | refine brF ?_)
 by_cases e : r.num = 0
 ·rw [decide_eq_true ((mag_nil (az_nn r.num)).2 (by unfold az; omega))] at z
  rw [show sgR r = 0 by unfold sgR; rw [if_pos e]]
  first | refine Exists.intro _ (And.intro (z) ?_) | refine Hn_by (Exists.intro _ (And.intro (z) ?_))
  repeat (first | refine gT ?_ | refine gF ?_ | refine brT ?_ | refine brF ?_)
  exact And.intro (Or.inr rfl) rfl
 ·rw [decide_eq_false (mag_ne e)] at z
  first | refine Exists.intro _ (And.intro (z) ?_) | refine Hn_by (Exists.intro _ (And.intro (z) ?_))
  repeat (first | refine gT ?_ | refine gF ?_ | refine brT ?_ | refine brF ?_)
  by_cases e2 : r.num < 0
  ·rw [show sgR r = -1 by unfold sgR; rw [if_neg e,if_pos e2],decide_eq_true e2]
   repeat (first | refine gT ?_ | refine gF ?_ | refine brT ?_ | refine brF ?_)
   exact And.intro (Or.inr rfl) rfl
  ·rw [show sgR r = 1 by unfold sgR; rw [if_neg e,if_neg e2],decide_eq_false e2]
   repeat (first | refine gT ?_ | refine gF ?_ | refine brT ?_ | refine brF ?_)
   exact And.intro (Or.inr rfl) rfl
end
end Ab
