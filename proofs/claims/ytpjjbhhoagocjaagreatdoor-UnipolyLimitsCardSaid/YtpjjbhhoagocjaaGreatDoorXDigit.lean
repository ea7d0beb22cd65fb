import Derived.Test.YtpjjbhhoagocjaaGreatDoorXIntOps
import Derived.Test.YtpjjbhhoagocjaaGreatDoorXKnuth
open Go Go.Proofs
namespace Ab
set_option maxRecDepth 100000
set_option maxHeartbeats 1000000
theorem digit_walk (gl : List (Nat × AV)) {u v : List Int} {j n : Nat} {P vlow v2 vt wlow w2 wn w1 T : Int} (hvl : v.length = n) (hn : 2 <= n) (hj : j + n < u.length) (hul : u.length <= 1048576) (e1 : u.getD (j + n) 0 = wn) (e2 : u.getD (j + n - 1) 0 = w1) (e3 : u.getD (j + n - 2) 0 = w2) (e4 : v.getD (n - 1) 0 = vt) (e5 : v.getD (n - 2) 0 = v2)
  (hwn : 0 <= wn∧wn < Dg.B) (hw1 : 0 <= w1∧w1 < Dg.B) (h : Dg.DH P vlow v2 vt wlow w2 (wn * Dg.B + w1) T) :
  Spec Tryz.prog gl 168 [lim u,.int .i64 (j : Int),lim v] (.int .u64 (Dg.digR v2 vt w2 (wn * Dg.B + w1))):=by
 obtain ⟨R,hR⟩ : ∃ R,R = Dg.digR v2 vt w2 (wn * Dg.B + w1):=⟨_,rfl⟩
 rw [<- hR]
 have lv : ((irows .u32 v).length : Int) = n:=by rw [irows_len,hvl]
 have k1 : w64 ((j : Int) + ((irows .u32 v).length : Int)) = ((j + n : Nat) : Int):=by rw [lv,w64_eq (by omega)]; omega
 have k2 : w64 (w64 ((j : Int) + ((irows .u32 v).length : Int)) - 1) = ((j + n - 1 : Nat) : Int):=by rw [k1,w64_eq (by omega)]; omega
 have k3 : w64 (w64 ((j : Int) + ((irows .u32 v).length : Int)) - 2) = ((j + n - 2 : Nat) : Int):=by rw [k1,w64_eq (by omega)]; omega
 have k4 : w64 (((irows .u32 v).length : Int) - 1) = ((n - 1 : Nat) : Int):=by rw [lv,w64_eq (by omega)]; omega
 have k5 : w64 (((irows .u32 v).length : Int) - 2) = ((n - 2 : Nat) : Int):=by rw [lv,w64_eq (by omega)]; omega
 have iU0 : 0 <= w64 ((j : Int) + ((irows .u32 v).length : Int)):=by omega
 have iU1 : 0 <= w64 (w64 ((j : Int) + ((irows .u32 v).length : Int)) - 1):=by omega
 have iU2 : 0 <= w64 (w64 ((j : Int) + ((irows .u32 v).length : Int)) - 2):=by omega
 have iV1 : 0 <= w64 (((irows .u32 v).length : Int) - 1):=by omega
 have iV2 : 0 <= w64 (((irows .u32 v).length : Int) - 2):=by omega
 have iwn : (irows .u32 u)[(w64 ((j : Int) + ((irows .u32 v).length : Int))).toNat]? = some [.int .u32 wn]:=irows_at (by rw [k1,<- e1]; exact getD_some (by omega))
 have iw1 : (irows .u32 u)[(w64 (w64 ((j : Int) + ((irows .u32 v).length : Int)) - 1)).toNat]? = some [.int .u32 w1]:=irows_at (by rw [k2,<- e2]; exact getD_some (by omega))
 have iw2 : (irows .u32 u)[(w64 (w64 ((j : Int) + ((irows .u32 v).length : Int)) - 2)).toNat]? = some [.int .u32 w2]:=irows_at (by rw [k3,<- e3]; exact getD_some (by omega))
 have ivt : (irows .u32 v)[(w64 (((irows .u32 v).length : Int) - 1)).toNat]? = some [.int .u32 vt]:=irows_at (by rw [k4,<- e4]; exact getD_some (by omega))
 have iv2 : (irows .u32 v)[(w64 (((irows .u32 v).length : Int) - 2)).toNat]? = some [.int .u32 v2]:=irows_at (by rw [k5,<- e5]; exact getD_some (by omega))
 have bt:=h.hvt
 have b2:=h.hv2
 have bw:=h.hw2
 have btop:=h.htop
 have evt : u64 vt = vt:=u64_in (by simp only [Dg.B] at *; omega)
 have ev2 : u64 v2 = v2:=u64_in (by simp only [Dg.B] at *; omega)
 have ewn : u64 wn = wn:=u64_in (by simp only [Dg.B] at *; omega)
 have etop : Go.bits .or .u64 (u64 (u64 wn * 2 ^ 32)) (u64 w1) = wn * Dg.B + w1:=by rw [ewn]; exact or_limb hwn hw1
 have htop64 : wn * Dg.B + w1 < 18446744073709551616:=by simp only [Dg.B] at *; omega
 have hini:=h.init
 have hRdef : R = Dg.digF v2 vt w2 (((wn * Dg.B + w1) / vt).toNat + 1) ((wn * Dg.B + w1) / vt) ((wn * Dg.B + w1) % vt):=hR
 generalize htop : wn * Dg.B + w1 = top at etop htop64 hini hRdef btop h
 have eq1 : u64 (Int.tdiv (Go.bits .or .u64 (u64 (u64 wn * 2 ^ 32)) (u64 w1)) (u64 vt)) = top / vt:=by
  rw [etop,evt,Int.tdiv_eq_ediv_of_nonneg btop.1]
  refine u64_in ⟨Int.ediv_nonneg btop.1 (by omega),Int.lt_of_le_of_lt (Int.ediv_le_self _ btop.1) htop64⟩
 have er1 : Int.tmod (Go.bits .or .u64 (u64 (u64 wn * 2 ^ 32)) (u64 w1)) (u64 vt) = top % vt:=by
  rw [etop,evt,Int.tmod_eq_emod_of_nonneg btop.1]
 have nvt : u64 vt ≠ 0:=by omega
 refine spec_fn T_ok mixed_ok 0 Tryz.func168 fn_ok168 (by kernel_rfl) ?_
 refine And.intro (by kernel_rfl) ?_
 repeat (first | refine gT ?_ | refine gF ?_ | refine brT ?_ | refine brF ?_ | refine And.intro rfl ?_)
 refine And.intro iU0 (Exists.intro _ (And.intro iwn ?_))
 repeat (first | refine gT ?_ | refine gF ?_ | refine brT ?_ | refine brF ?_ | refine And.intro rfl ?_)
 refine And.intro (by decide) ?_
 repeat (first | refine gT ?_ | refine gF ?_ | refine brT ?_ | refine brF ?_ | refine And.intro rfl ?_)
 refine And.intro iU1 (Exists.intro _ (And.intro iw1 ?_))
 repeat (first | refine gT ?_ | refine gF ?_ | refine brT ?_ | refine brF ?_ | refine And.intro rfl ?_)
 refine And.intro iV1 (Exists.intro _ (And.intro ivt ?_))
 refine And.intro nvt ?_
 refine And.intro iV1 (Exists.intro _ (And.intro ivt ?_))
 refine And.intro nvt ?_
 refine aw_loop (fun x : Int × Int => stOf [(0,lim u),(1,.int .i64 (j : Int)),(2,lim v),(7,.int .i64 ((irows .u32 v).length : Int)),(9,.int .u64 x.1),(10,.int .u64 x.2)] [] 0)
  (fun x => Dg.Est P vlow v2 vt wlow w2 top T x.1 x.2∧∃ k,x.1.toNat < k∧Dg.digF v2 vt w2 k x.1 x.2 = R) (fun x => x.1.toNat) (top / vt,top % vt) ⟨hini,_,Nat.lt_succ_self _,hRdef.symm⟩
  (le_by ⟨rfl,rfl,rfl,rfl,int_eq eq1,int_eq er1,trivial⟩ trivial (Nat.le_refl _)) ?_
 rintro ⟨q,r⟩ ⟨hE,k,hk1,hk2⟩ P' hP
 simp only at hE hk1 hk2
 have hE' : Dg.Est P vlow v2 vt wlow w2 top T q r:=hE
 have r0:=hE'.r0
 have r1:=hE'.r1
 have hq0 : 0 <= q:=Int.le_trans h.hT.1 hE'.up
 have hq64 : q < 18446744073709551616:=by
  have a:=hE'.e
  have b : q * 1 <= q * vt:=Int.mul_le_mul_of_nonneg_left (by omega) hq0
  omega
 refine And.intro (by kernel_rfl) ?_
 repeat (first | refine gT ?_ | refine gF ?_ | refine brT ?_ | refine brF ?_ | refine And.intro rfl ?_)
 refine gr (fun h1 => ?_) (fun h1 => ?_)
 ·have hcond : Dg.B <= q ∨ r * Dg.B + w2 < q * v2:=.inl h1
  obtain ⟨g1,g2,g3⟩:=Dg.est_next hE' h.hP h.hvl.1 h.hwl.2 h.hT.2 h.hT.1 h.lo hcond
  repeat (first | refine gT ?_ | refine gF ?_ | refine brT ?_ | refine brF ?_)
  have G1 : u64 (q - 1) = q - 1:=u64_in (by omega)
  have G2 : u64 (r + u64 vt) = r + vt:=by rw [evt]; exact u64_in (by simp only [Dg.B] at *; omega)
  refine And.intro iV1 (Exists.intro _ (And.intro ivt ?_))
  refine br (fun h3 => ?_) (fun h3 => ?_)
  ·have h3' : Dg.B <= r + vt:=by rw [<- G2]; exact h3
   clear hP
   have hR : q - 1 = R:=by
    rw [<- hk2]
    cases k with
    | zero => exact absurd hk1 (Nat.not_lt_zero _)
    | succ k => unfold Dg.digF; rw [if_pos hcond,if_pos h3']
   rw [<- hR]
   exact And.intro (Or.inr rfl) (int_eq G1)
  ·have h3' : ¬ Dg.B <= r + vt:=by rw [<- G2]; exact h3
   refine hP (q - 1,r + vt) _ (le_by ⟨rfl,rfl,rfl,rfl,int_eq G1,int_eq G2,trivial⟩ trivial (Nat.le_refl _)) ⟨⟨g2,by show 0 <= r + vt; omega,by show r + vt < Dg.B; omega,g3⟩,?_⟩ (by show (q - 1).toNat < q.toNat; omega)
   cases k with
   | zero => exact absurd hk1 (Nat.not_lt_zero _)
   | succ k =>
    refine ⟨k,by show (q - 1).toNat < k; omega,?_⟩
    rw [<- hk2]
    show _ = Dg.digF v2 vt w2 (k + 1) q r
    rw [Dg.digF,if_pos hcond,if_neg h3']
 ·have h1' : q < Dg.B:=Int.not_le.1 h1
  repeat (first | refine gT ?_ | refine gF ?_ | refine brT ?_ | refine brF ?_ | refine And.intro rfl ?_)
  refine And.intro iV2 (Exists.intro _ (And.intro iv2 ?_))
  repeat (first | refine gT ?_ | refine gF ?_ | refine brT ?_ | refine brF ?_ | refine And.intro rfl ?_)
  refine And.intro (by decide) ?_
  repeat (first | refine gT ?_ | refine gF ?_ | refine brT ?_ | refine brF ?_ | refine And.intro rfl ?_)
  refine And.intro iU2 (Exists.intro _ (And.intro iw2 ?_))
  repeat (first | refine gT ?_ | refine gF ?_ | refine brT ?_ | refine brF ?_ | refine And.intro rfl ?_)
  have F1 : u64 (q * u64 v2) = q * v2:=by
   rw [ev2]
   refine u64_in ⟨Int.mul_nonneg hq0 b2.1,?_⟩
   have : q * v2 <= (Dg.B - 1) * Dg.B:=Int.mul_le_mul (by omega) (by omega) b2.1 (by decide)
   exact Int.lt_of_le_of_lt this (by decide)
  have F3 : Go.bits .or .u64 (u64 (r * 2 ^ 32)) (u64 w2) = r * Dg.B + w2:=or_limb ⟨r0,r1⟩ bw
  refine br (fun h2 => ?_) (fun h2 => ?_)
  ·have hcond : Dg.B <= q ∨ r * Dg.B + w2 < q * v2:=.inr (by rw [<- F1,<- F3]; exact h2)
   obtain ⟨g1,g2,g3⟩:=Dg.est_next hE' h.hP h.hvl.1 h.hwl.2 h.hT.2 h.hT.1 h.lo hcond
   have G1 : u64 (q - 1) = q - 1:=u64_in (by omega)
   have G2 : u64 (r + u64 vt) = r + vt:=by rw [evt]; exact u64_in (by simp only [Dg.B] at *; omega)
   refine And.intro iV1 (Exists.intro _ (And.intro ivt ?_))
   refine br (fun h3 => ?_) (fun h3 => ?_)
   ·have h3' : Dg.B <= r + vt:=by rw [<- G2]; exact h3
    clear hP
    have hR : q - 1 = R:=by
     rw [<- hk2]
     cases k with
     | zero => exact absurd hk1 (Nat.not_lt_zero _)
     | succ k => unfold Dg.digF; rw [if_pos hcond,if_pos h3']
    rw [<- hR]
    exact And.intro (Or.inr rfl) (int_eq G1)
   ·have h3' : ¬ Dg.B <= r + vt:=by rw [<- G2]; exact h3
    refine hP (q - 1,r + vt) _ (le_by ⟨rfl,rfl,rfl,rfl,int_eq G1,int_eq G2,trivial⟩ trivial (Nat.le_refl _)) ⟨⟨g2,by show 0 <= r + vt; omega,by show r + vt < Dg.B; omega,g3⟩,?_⟩ (by show (q - 1).toNat < q.toNat; omega)
    cases k with
    | zero => exact absurd hk1 (Nat.not_lt_zero _)
    | succ k =>
     refine ⟨k,by show (q - 1).toNat < k; omega,?_⟩
     rw [<- hk2]
     show _ = Dg.digF v2 vt w2 (k + 1) q r
     rw [Dg.digF,if_pos hcond,if_neg h3']
  ·have h2' : ¬ r * Dg.B + w2 < q * v2:=by rw [<- F1,<- F3]; exact h2
   clear hP
   have hR2 : q = R:=by
    rw [<- hk2]
    cases k with
    | zero => exact absurd hk1 (Nat.not_lt_zero _)
    | succ k => unfold Dg.digF; rw [if_neg (by omega)]
   rw [<- hR2]
   exact And.intro (Or.inr rfl) rfl
end Ab
