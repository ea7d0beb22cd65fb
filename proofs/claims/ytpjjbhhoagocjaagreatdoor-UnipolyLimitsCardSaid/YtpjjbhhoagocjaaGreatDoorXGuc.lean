import Derived.Test.YtpjjbhhoagocjaaGreatDoorXGz
import Derived.Test.YtpjjbhhoagocjaaGreatDoorXGy
section
open Go Go.Proofs
namespace Ab
set_option maxRecDepth 100000
set_option maxHeartbeats 1000000
theorem r2_bd {a b : Int} (ha : a.natAbs <= 50) (hb : b.natAbs <= 50) : BdL 1 50 [(a : Rat),(b : Rat)]:=bdl_of (by decide) fun i hi => by
 match i,hi with
 | 0,_ => exact bd_int ha
 | 1,_ => exact bd_int hb
theorem r2_lst {a b : Rat} (h : b ≠ 0) : Lst [a,b]:=fun _ => h
abbrev lin (n : Int) : List Rat:=[((-n : Int) : Rat),((1 : Int) : Rat)]
theorem lin_spec (gl : List (Nat × AV)) {n : Int} (h0 : -1000000 <= n) (h1 : n <= 1000000) : Spec Tryz.prog gl 22 [.int .i64 n] (polyV (lin n)):=linear_spec gl h0 h1
theorem lin_bd {n : Int} (h : n.natAbs <= 50) : BdL 1 50 (lin n):=r2_bd (by omega) (by decide)
theorem lin_lst (n : Int) : Lst (lin n):=r2_lst (by decide)
theorem sn_mul : Spec Tryz.prog [] 16 [polyV (lin 1),polyV (lin (-1))] (.tup [polyV [-1,0,1],.int .i64 0]):=by
 have h:=Mul_any [] (lin_bd (n:=1) (by decide)) (lin_bd (n:=-1) (by decide)) (lin_lst _) (lin_lst _) (by decide) (by decide) (by decide) (by decide +kernel) (by decide +kernel)
 rw [show mulP (lin 1) (lin (-1)) = [-1,0,1] by decide +kernel] at h
 exact h
theorem sn_p1 : Spec Tryz.prog [] 15 [.sl (irows .i64 [50,50,51]),.int .i64 3] (polyV [0,0,1]):=by
 have h:=lawPoly_spec [] (l:=[50,50,51]) (n:=3) (by unfold I64; decide) (by decide) (by decide)
 rw [show polyQ [50,50,51] 3 = [0,0,1] by decide +kernel] at h
 exact h
theorem sn_p2 : Spec Tryz.prog [] 15 [.sl (irows .i64 [49,52]),.int .i64 3] (polyV [-1,2]):=by
 have h:=lawPoly_spec [] (l:=[49,52]) (n:=3) (by unfold I64; decide) (by decide) (by decide)
 rw [show polyQ [49,52] 3 = [-1,2] by decide +kernel] at h
 exact h
theorem sn_p3 : Spec Tryz.prog [] 15 [.sl (irows .i64 [49,50,51]),.int .i64 3] (polyV [-1,0,1]):=by
 have h:=lawPoly_spec [] (l:=[49,50,51]) (n:=3) (by unfold I64; decide) (by decide) (by decide)
 rw [show polyQ [49,50,51] 3 = [-1,0,1] by decide +kernel] at h
 exact h
theorem sn_p4 : Spec Tryz.prog [] 15 [.sl (irows .i64 [52,52]),.int .i64 3] (polyV [2,2]):=by
 have h:=lawPoly_spec [] (l:=[52,52]) (n:=3) (by unfold I64; decide) (by decide) (by decide)
 rw [show polyQ [52,52] 3 = [2,2] by decide +kernel] at h
 exact h
theorem r3_bd {a b c : Int} (ha : a.natAbs <= 50) (hb : b.natAbs <= 50) (hc : c.natAbs <= 50) : BdL 1 50 [(a : Rat),(b : Rat),(c : Rat)]:=bdl_of (by decide) fun i hi => by
 match i,hi with
 | 0,_ => exact bd_int ha
 | 1,_ => exact bd_int hb
 | 2,_ => exact bd_int hc
theorem r3_lst {a b c : Rat} (h : c ≠ 0) : Lst [a,b,c]:=fun _ => h
theorem b1 : BdL 1 50 [0,0,1]:=r3_bd (a:=0) (b:=0) (c:=1) (by decide) (by decide) (by decide)
theorem b2 : BdL 1 50 [-1,2]:=r2_bd (a:=-1) (b:=2) (by decide) (by decide)
theorem b3 : BdL 1 50 [-1,0,1]:=r3_bd (a:=-1) (b:=0) (c:=1) (by decide) (by decide) (by decide)
theorem b4 : BdL 1 50 [2,2]:=r2_bd (a:=2) (b:=2) (by decide) (by decide)
theorem pl {p : List Rat} (h : BdL 1 50 p) (hl : p.length <= 65) (ht : Lst p) : Poly p:=poly_of h (by decide +kernel) hl ht
theorem sn_div : Spec Tryz.prog [] 32 [polyV [0,0,1],polyV [-1,2]] (.tup [polyV [1 / 4,1 / 2],polyV [1 / 4],.int .i64 0]):=by
 have ok:=divOk_int b1 b2 (by decide) (by decide) (r2_lst (by decide))
 have h:=DivMod_spec [] (pl b1 (by decide) (r3_lst (by decide))) (pl b2 (by decide) (r2_lst (by decide))) (by decide) (.long (by decide) ok)
 rw [show divQ [0,0,1] [-1,2] = [1 / 4,1 / 2] by decide +kernel,show clipP (divR0 [0,0,1] [-1,2]) = [1 / 4] by decide +kernel] at h
 exact h
theorem sn_gcd : Spec Tryz.prog [] 17 [polyV [-1,0,1],polyV [2,2]] (.tup [polyV [1,1],.int .i64 0]):=by
 have ok:=divOk_int b3 b4 (by decide) (by decide) (r2_lst (by decide))
 have mo : MonOk [2,2]:=by
  intro i hi
  exact bd_fd (b4 i) (b4 1) (by decide +kernel) (by decide)
 have e : clipP (divR0 [-1,0,1] [2,2]) = []:=by decide +kernel
 have dr:=DivR.long (by decide) ok
 rw [e] at dr
 have g : GcdR 1 [-1,0,1] [2,2] (monP [2,2]):=.step (by decide) (by decide) (by decide) dr (by decide) (fun i hi => by cases hi) (.done (by decide) mo)
 have h:=GCD_spec [] (pl b3 (by decide) (r3_lst (by decide))) (pl b4 (by decide) (r2_lst (by decide))) g
 rw [show monP [2,2] = [1,1] by decide +kernel] at h
 exact h
theorem sn_res : Spec Tryz.prog [] 25 [polyV (lin 3),polyV (lin 1)] (.tup [rV 2,.int .i64 0]):=by
 have b5:=lin_bd (n:=3) (by decide)
 have b6:=lin_bd (n:=1) (by decide)
 have ok:=divOk_int b5 b6 (by decide) (by decide) (lin_lst _)
 have e : clipP (divR0 (lin 3) (lin 1)) = [-2]:=by decide +kernel
 have dr:=DivR.long (by decide) ok
 rw [e] at dr
 have i1 : Bd 1 50 1:=bd_int (n:=1) (by decide)
 have i2 : Bd 1 50 (-2):=bd_int (n:=-2) (by decide)
 have r1 : ResR (lin 1) [-2] (-2):=by
  have:=ResR.const (p:=lin 1) (q:=[-2]) (by decide) (by decide) rfl (fun i hi => by
   have e : i = 0:=by simp at hi; exact hi
   subst e
   exact bd_fm i1 i2 (by decide +kernel))
  rw [show rpow (cf [-2] 0) ((lin 1).length - 1) = -2 by decide +kernel] at this
  exact this
 have h : ResR (lin 3) (lin 1) 2:=by
  refine ResR.step (a:=divQ (lin 3) (lin 1)) (r:=[-2]) (w:=-2) (by decide) (by decide) (by decide) dr (by decide) (by decide) (fun i hi => ?_) r1 ?_ ?_
  ·have e : i = 0:=by simp at hi; exact hi
   subst e
   exact bd_fm i1 i1 (by decide +kernel)
  ·have e1 : rpow (cf (lin 1) ((lin 1).length - 1)) ((lin 3).length - 1 - [(-2 : Rat)].length + 1) = 1:=by decide +kernel
   rw [e1]
   exact bd_fm i1 i2 (by decide +kernel)
  ·have e1 : rpow (cf (lin 1) ((lin 1).length - 1)) ((lin 3).length - 1 - [(-2 : Rat)].length + 1) * -2 = -2:=by decide +kernel
   rw [e1]
   unfold SgnR
   rw [if_pos (by decide)]
   refine ⟨?_,by decide +kernel⟩
   exact bd_fs (bd_int (n:=0) (N:=50) (by decide)) (bd_int (n:=-2) (N:=50) (by decide)) (by decide +kernel)
 exact Resultant_spec [] (pl b5 (by decide) (lin_lst _)) (pl b6 (by decide) (lin_lst _)) (by decide) (by decide) h
theorem sn_zero : Spec Tryz.prog [] 32 [polyV (lin 1),polyV []] (.tup [polyV [],polyV [],.int .i64 4]) :=
 DivMod_zero [] (pl (lin_bd (n:=1) (by decide)) (by decide) (lin_lst _))
end Ab
end
section
open Go Go.Proofs
namespace Ab
set_option maxRecDepth 100000
set_option maxHeartbeats 1000000
theorem sn_of {d : Int} {r : Rat} (h2 : 0 < d) (h3 : d < 4294967296) (h : Rat.divInt 1 d = r) : Spec Tryz.prog [] 48 [.int .i64 1,.int .i64 d] (.tup [rV r,.int .i64 0]):=by
 have o:=rof_int [] (n:=1) (d:=d) (by decide) (by decide) h2 h3
 rw [mk_red h2,h] at o
 exact o
theorem rf_int {n : Int} (h : n.natAbs <= 50) : RF (n : Rat):=(bd_int h).rf (by decide +kernel)
abbrev exT : ByteArray:=⟨⟨[45,50,42,120,94,50,32,43,32,120,32,43,32,49]⟩⟩
theorem sn_text : Spec Tryz.prog [] 47 [.sl ((lin (-1)).map rv ++ [rv ((-2 : Int) : Rat)])] (.tup [.str exT,.int .i64 0]):=by
 have e : (lin (-1)).map rv ++ [rv ((-2 : Int) : Rat)] = exR:=by
  show [rv 1,rv 1,rv (-2)] = exR
  rw [rv_one,rv_m2]
 rw [e]
 refine text_spec ?_ ?_ ?_
 ·have p : Poly [1,1,-2]:=pl (r3_bd (a:=1) (b:=1) (c:=-2) (by decide) (by decide) (by decide)) (by decide) (r3_lst (by decide))
  have h:=check_spec [] p
  have e : polyV [1,1,-2] = .sl exR:=by
   show AV.sl [rv 1,rv 1,rv (-2)] = _
   rw [rv_one,rv_m2]
  rw [e] at h
  exact h
 ·have h:=sign_rat [] (r:=1) (rf_int (n:=1) (by decide))
  rw [show sgR 1 = 1 by decide +kernel] at h
  unfold rV at h
  rw [rv_one] at h
  exact h
 ·have h:=sign_rat [] (r:=-2) (rf_int (n:=-2) (by decide))
  rw [show sgR (-2) = -1 by decide +kernel] at h
  unfold rV at h
  rw [rv_m2] at h
  exact h
theorem sn_same {d N : Nat} {p q : List Rat} (h : BdL d N p) (hs : N + d <= SZ) (hl : p.length <= 1000000) (hl2 : q.length <= 1000000) (e : p = q) : Spec Tryz.prog [] 20 [polyV p,polyV q] (.bool true):=by
 have h:=sameL_spec [] (h.rf hs) hl hl2
 rw [decide_eq_true e] at h
 exact h
theorem q1_bd : BdL 4 2 [1 / 4,1 / 2]:=bdl_of (by decide) fun i hi => by
 match i,hi with
 | 0,_ => exact ⟨by decide,1,by decide +kernel,by decide⟩
 | 1,_ => exact ⟨by decide,2,by decide +kernel,by decide⟩
theorem q2_bd : BdL 4 2 [1 / 4]:=bdl_of (by decide) fun i hi => by
 match i,hi with
 | 0,_ => exact ⟨by decide,1,by decide +kernel,by decide⟩
theorem sane_walk {L1 LM L3 A1 A2 A3 A4 A5 A6 D1 D2 : List Rat} {N0 N1 N2 NM NN R2 H Q : Rat}
  (l1 : Spec Tryz.prog [] 22 [.int .i64 1] (polyV L1))
  (lm : Spec Tryz.prog [] 22 [.int .i64 (-1)] (polyV LM))
  (l3 : Spec Tryz.prog [] 22 [.int .i64 3] (polyV L3))
  (n0 : Spec Tryz.prog [] 19 [.int .i64 0] (rV N0))
  (n1 : Spec Tryz.prog [] 19 [.int .i64 1] (rV N1))
  (n2 : Spec Tryz.prog [] 19 [.int .i64 2] (rV N2))
  (nm : Spec Tryz.prog [] 19 [.int .i64 (-1)] (rV NM))
  (nn : Spec Tryz.prog [] 19 [.int .i64 (-2)] (rV NN))
  (m : Spec Tryz.prog [] 16 [polyV L1,polyV LM] (.tup [polyV A1,.int .i64 0]))
  (p1 : Spec Tryz.prog [] 15 [.sl [[.int .i64 50],[.int .i64 50],[.int .i64 51]],.int .i64 3] (polyV A2))
  (p2 : Spec Tryz.prog [] 15 [.sl [[.int .i64 49],[.int .i64 52]],.int .i64 3] (polyV A3))
  (p3 : Spec Tryz.prog [] 15 [.sl [[.int .i64 49],[.int .i64 50],[.int .i64 51]],.int .i64 3] (polyV A4))
  (p4 : Spec Tryz.prog [] 15 [.sl [[.int .i64 52],[.int .i64 52]],.int .i64 3] (polyV A5))
  (dv : Spec Tryz.prog [] 32 [polyV A2,polyV A3] (.tup [polyV D1,polyV D2,.int .i64 0]))
  (gc : Spec Tryz.prog [] 17 [polyV A4,polyV A5] (.tup [polyV A6,.int .i64 0]))
  (rs : Spec Tryz.prog [] 25 [polyV L3,polyV L1] (.tup [rV R2,.int .i64 0]))
  (tx : Spec Tryz.prog [] 47 [.sl ([rv N1,rv N1] ++ [rv NN])] (.tup [.str exT,.int .i64 0]))
  (dz : Spec Tryz.prog [] 32 [polyV L1,polyV []] (.tup [polyV [],polyV [],.int .i64 4]))
  (oh : Spec Tryz.prog [] 48 [.int .i64 1,.int .i64 2] (.tup [rV H,.int .i64 0]))
  (oq : Spec Tryz.prog [] 48 [.int .i64 1,.int .i64 4] (.tup [rV Q,.int .i64 0]))
  (s1 : Spec Tryz.prog [] 20 [polyV A1,polyV [NM,N0,N1]] (.bool true))
  (s2 : Spec Tryz.prog [] 20 [polyV D1,polyV [Q,H]] (.bool true))
  (s3 : Spec Tryz.prog [] 20 [polyV D2,polyV [Q]] (.bool true))
  (s4 : Spec Tryz.prog [] 20 [polyV A6,polyV LM] (.bool true))
  (s5 : Spec Tryz.prog [] 18 [rV R2,rV N2] (.bool true)) :
  Spec Tryz.prog [] 14 [] (.bool true):=by
 unfold rV rv at *
 refine spec_fn T_ok mixed_ok 1 Tryz.func14 fn_ok14 (by kernel_rfl) ?_
 first | refine Exists.intro _ (And.intro (l1) ?_) | refine Hn_by (Exists.intro _ (And.intro (l1) ?_))
 first | refine Exists.intro _ (And.intro (lm) ?_) | refine Hn_by (Exists.intro _ (And.intro (lm) ?_))
 first | refine Exists.intro _ (And.intro (m) ?_) | refine Hn_by (Exists.intro _ (And.intro (m) ?_))
 repeat (first | refine gT ?_ | refine gF ?_ | refine brT ?_ | refine brF ?_)
 refine Hn_by (And.intro (Nat.le_refl 3) ?_)
 first | refine Exists.intro _ (And.intro (p1) ?_) | refine Hn_by (Exists.intro _ (And.intro (p1) ?_))
 refine Hn_by (And.intro (Nat.le_refl 2) ?_)
 first | refine Exists.intro _ (And.intro (p2) ?_) | refine Hn_by (Exists.intro _ (And.intro (p2) ?_))
 first | refine Exists.intro _ (And.intro (dv) ?_) | refine Hn_by (Exists.intro _ (And.intro (dv) ?_))
 repeat (first | refine gT ?_ | refine gF ?_ | refine brT ?_ | refine brF ?_)
 refine Hn_by (And.intro (Nat.le_refl 3) ?_)
 first | refine Exists.intro _ (And.intro (p3) ?_) | refine Hn_by (Exists.intro _ (And.intro (p3) ?_))
 refine Hn_by (And.intro (Nat.le_refl 2) ?_)
 first | refine Exists.intro _ (And.intro (p4) ?_) | refine Hn_by (Exists.intro _ (And.intro (p4) ?_))
 first | refine Exists.intro _ (And.intro (gc) ?_) | refine Hn_by (Exists.intro _ (And.intro (gc) ?_))
 repeat (first | refine gT ?_ | refine gF ?_ | refine brT ?_ | refine brF ?_)
 first | refine Exists.intro _ (And.intro (l3) ?_) | refine Hn_by (Exists.intro _ (And.intro (l3) ?_))
 first | refine Exists.intro _ (And.intro (l1) ?_) | refine Hn_by (Exists.intro _ (And.intro (l1) ?_))
 first | refine Exists.intro _ (And.intro (rs) ?_) | refine Hn_by (Exists.intro _ (And.intro (rs) ?_))
 repeat (first | refine gT ?_ | refine gF ?_ | refine brT ?_ | refine brF ?_)
 refine Hn_in Tryz.f22 Tryz.func22 fn_ok22 (by kernel_rfl) ?_
 repeat (first | refine gT ?_ | refine gF ?_ | refine brT ?_ | refine brF ?_)
 first | refine Exists.intro _ (And.intro (n1) ?_) | refine Hn_by (Exists.intro _ (And.intro (n1) ?_))
 first | refine Exists.intro _ (And.intro (n1) ?_) | refine Hn_by (Exists.intro _ (And.intro (n1) ?_))
 repeat (first | refine gT ?_ | refine gF ?_ | refine brT ?_ | refine brF ?_)
 refine And.intro (Or.inr rfl) ?_
 repeat (first | refine gT ?_ | refine gF ?_ | refine brT ?_ | refine brF ?_)
 first | refine Exists.intro _ (And.intro (nn) ?_) | refine Hn_by (Exists.intro _ (And.intro (nn) ?_))
 repeat (first | refine gT ?_ | refine gF ?_ | refine brT ?_ | refine brF ?_)
 refine And.intro rfl (And.intro (Nat.le_refl 1) (And.intro (show 3 * 64 <= 140737488355328 by decide) (And.intro (show 3 <= maxLen by decide) ?_)))
 refine Hn_by (And.intro (Nat.le_refl 3) ?_)
 first | refine Exists.intro _ (And.intro (tx) ?_) | refine Hn_by (Exists.intro _ (And.intro (tx) ?_))
 repeat (first | refine gT ?_ | refine gF ?_ | refine brT ?_ | refine brF ?_)
 first | refine Exists.intro _ (And.intro (l1) ?_) | refine Hn_by (Exists.intro _ (And.intro (l1) ?_))
 first | refine Exists.intro _ (And.intro (dz) ?_) | refine Hn_by (Exists.intro _ (And.intro (dz) ?_))
 repeat (first | refine gT ?_ | refine gF ?_ | refine brT ?_ | refine brF ?_)
 first | refine Exists.intro _ (And.intro (oh) ?_) | refine Hn_by (Exists.intro _ (And.intro (oh) ?_))
 repeat (first | refine gT ?_ | refine gF ?_ | refine brT ?_ | refine brF ?_)
 first | refine Exists.intro _ (And.intro (oq) ?_) | refine Hn_by (Exists.intro _ (And.intro (oq) ?_))
 repeat (first | refine gT ?_ | refine gF ?_ | refine brT ?_ | refine brF ?_)
 first | refine Exists.intro _ (And.intro (nm) ?_) | refine Hn_by (Exists.intro _ (And.intro (nm) ?_))
 first | refine Exists.intro _ (And.intro (n0) ?_) | refine Hn_by (Exists.intro _ (And.intro (n0) ?_))
 first | refine Exists.intro _ (And.intro (n1) ?_) | refine Hn_by (Exists.intro _ (And.intro (n1) ?_))
 repeat (first | refine gT ?_ | refine gF ?_ | refine brT ?_ | refine brF ?_)
 refine Hn_by (And.intro (Nat.le_refl 3) ?_)
 first | refine Exists.intro _ (And.intro (s1) ?_) | refine Hn_by (Exists.intro _ (And.intro (s1) ?_))
 repeat (first | refine gT ?_ | refine gF ?_ | refine brT ?_ | refine brF ?_)
 refine Hn_by (And.intro (Nat.le_refl 2) ?_)
 first | refine Exists.intro _ (And.intro (s2) ?_) | refine Hn_by (Exists.intro _ (And.intro (s2) ?_))
 repeat (first | refine gT ?_ | refine gF ?_ | refine brT ?_ | refine brF ?_)
 refine Hn_by (And.intro (Nat.le_refl 1) ?_)
 first | refine Exists.intro _ (And.intro (s3) ?_) | refine Hn_by (Exists.intro _ (And.intro (s3) ?_))
 repeat (first | refine gT ?_ | refine gF ?_ | refine brT ?_ | refine brF ?_)
 first | refine Exists.intro _ (And.intro (lm) ?_) | refine Hn_by (Exists.intro _ (And.intro (lm) ?_))
 first | refine Exists.intro _ (And.intro (s4) ?_) | refine Hn_by (Exists.intro _ (And.intro (s4) ?_))
 repeat (first | refine gT ?_ | refine gF ?_ | refine brT ?_ | refine brF ?_)
 refine And.intro (by kernel_rfl) ?_
 repeat (first | refine gT ?_ | refine gF ?_ | refine brT ?_ | refine brF ?_ | refine And.intro rfl ?_)
 first | refine Exists.intro _ (And.intro (n2) ?_) | refine Hn_by (Exists.intro _ (And.intro (n2) ?_))
 repeat (first | refine gT ?_ | refine gF ?_ | refine brT ?_ | refine brF ?_ | refine And.intro rfl ?_)
 first | refine Exists.intro _ (And.intro (s5) ?_) | refine Hn_by (Exists.intro _ (And.intro (s5) ?_))
 repeat (first | refine gT ?_ | refine gF ?_ | refine brT ?_ | refine brF ?_ | refine And.intro rfl ?_)
 repeat (first | refine gT ?_ | refine gF ?_ | refine brT ?_ | refine brF ?_)
 exact And.intro (Or.inr rfl) rfl
theorem sane_spec : Spec Tryz.prog [] 14 [] (.bool true):=by
 refine sane_walk (L1:=lin 1) (LM:=lin (-1)) (L3:=lin 3) (D1:=[1 / 4,1 / 2]) (D2:=[1 / 4]) (H:=1 / 2) (Q:=1 / 4) (R2:=2)
  (lin_spec [] (by decide) (by decide)) (lin_spec [] (by decide) (by decide)) (lin_spec [] (by decide) (by decide))
  (number_spec [] (n:=0) (by decide) (by decide)) (number_spec [] (n:=1) (by decide) (by decide)) (number_spec [] (n:=2) (by decide) (by decide)) (number_spec [] (n:=-1) (by decide) (by decide)) (number_spec [] (n:=-2) (by decide) (by decide))
  sn_mul sn_p1 sn_p2 sn_p3 sn_p4 sn_div sn_gcd sn_res sn_text sn_zero
  (sn_of (d:=2) (by decide) (by decide) (by decide +kernel)) (sn_of (d:=4) (by decide) (by decide) (by decide +kernel))
  (sn_same b3 (by decide +kernel) (by decide) (by decide) (by decide +kernel))
  (sn_same q1_bd (by decide +kernel) (by decide) (by decide) rfl)
  (sn_same q2_bd (by decide +kernel) (by decide) (by decide) rfl)
  (sn_same (r2_bd (a:=1) (b:=1) (by decide) (by decide)) (by decide +kernel) (by decide) (by decide) (by decide +kernel)) ?_
 have h:=sameRat_spec [] (a:=2) (b:=((2 : Int) : Rat)) (rf_int (n:=2) (by decide))
 rw [decide_eq_true (by decide +kernel)] at h
 exact h
end Ab
end
