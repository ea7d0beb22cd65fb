import Derived.Test.YtpjjbhhoagocjaaGreatDoorXGz
import Derived.Test.YtpjjbhhoagocjaaGreatDoorXGy
open Go Go.Proofs
namespace Ab
set_option maxRecDepth 100000
set_option maxHeartbeats 1000000
theorem r2_bd {a b : Int} (ha : a.natAbs <= 50) (hb : b.natAbs <= 50) : BdL 1 50 [(a : Rat),(b : Rat)]:=bdl_of (by decide) fun i hi => by
 match i,hi with
 | 0,_ => exact bd_int ha
 | 1,_ => exact bd_int hb
theorem r2_lst {a b : Rat} (h : b ≠ 0) : Lst [a,b]:=fun _ => h
abbrev lin (n : Int) : List Rat:=[((-n : Int) : Rat),((1 : Int) : Rat)]
theorem lin_spec (gl : List (Nat × AV)) {n : Int} (h0 : -1000000 <= n) (h1 : n <= 1000000) : Spec Tryz.prog gl 22 [.int .i64 n] (polyV (lin n)):=linear_spec gl h0 h1
theorem lin_bd {n : Int} (h : n.natAbs <= 50) : BdL 1 50 (lin n):=r2_bd (by omega) (by decide)
theorem lin_lst (n : Int) : Lst (lin n):=r2_lst (by decide)
theorem sn_mul : Spec Tryz.prog [] 16 [polyV (lin 1),polyV (lin (-1))] (.tup [polyV [-1,0,1],.int .i64 0]):=by
 have h:=Mul_any [] (lin_bd (n:=1) (by decide)) (lin_bd (n:=-1) (by decide)) (lin_lst _) (lin_lst _) (by decide) (by decide) (by decide) (by decide +kernel) (by decide +kernel)
 rw [show mulP (lin 1) (lin (-1)) = [-1,0,1] by decide +kernel] at h
 exact h
theorem sn_p1 : Spec Tryz.prog [] 15 [.sl (irows .i64 [50,50,51]),.int .i64 3] (polyV [0,0,1]):=by
 have h:=lawPoly_spec [] (l:=[50,50,51]) (n:=3) (by unfold I64; decide) (by decide) (by decide)
 rw [show polyQ [50,50,51] 3 = [0,0,1] by decide +kernel] at h
 exact h
theorem sn_p2 : Spec Tryz.prog [] 15 [.sl (irows .i64 [49,52]),.int .i64 3] (polyV [-1,2]):=by
 have h:=lawPoly_spec [] (l:=[49,52]) (n:=3) (by unfold I64; decide) (by decide) (by decide)
 rw [show polyQ [49,52] 3 = [-1,2] by decide +kernel] at h
 exact h
theorem sn_p3 : Spec Tryz.prog [] 15 [.sl (irows .i64 [49,50,51]),.int .i64 3] (polyV [-1,0,1]):=by
 have h:=lawPoly_spec [] (l:=[49,50,51]) (n:=3) (by unfold I64; decide) (by decide) (by decide)
 rw [show polyQ [49,50,51] 3 = [-1,0,1] by decide +kernel] at h
 exact h
theorem sn_p4 : Spec Tryz.prog [] 15 [.sl (irows .i64 [52,52]),.int .i64 3] (polyV [2,2]):=by
 have h:=lawPoly_spec [] (l:=[52,52]) (n:=3) (by unfold I64; decide) (by decide) (by decide)
 rw [show polyQ [52,52] 3 = [2,2] by decide +kernel] at h
 exact h
theorem r3_bd {a b c : Int} (ha : a.natAbs <= 50) (hb : b.natAbs <= 50) (hc : c.natAbs <= 50) : BdL 1 50 [(a : Rat),(b : Rat),(c : Rat)]:=bdl_of (by decide) fun i hi => by
 match i,hi with
 | 0,_ => exact bd_int ha
 | 1,_ => exact bd_int hb
 | 2,_ => exact bd_int hc
theorem r3_lst {a b c : Rat} (h : c ≠ 0) : Lst [a,b,c]:=fun _ => h
theorem b1 : BdL 1 50 [0,0,1]:=r3_bd (a:=0) (b:=0) (c:=1) (by decide) (by decide) (by decide)
theorem b2 : BdL 1 50 [-1,2]:=r2_bd (a:=-1) (b:=2) (by decide) (by decide)
theorem b3 : BdL 1 50 [-1,0,1]:=r3_bd (a:=-1) (b:=0) (c:=1) (by decide) (by decide) (by decide)
theorem b4 : BdL 1 50 [2,2]:=r2_bd (a:=2) (b:=2) (by decide) (by decide)
theorem pl {p : List Rat} (h : BdL 1 50 p) (hl : p.length <= 65) (ht : Lst p) : Poly p:=poly_of h (by decide +kernel) hl ht
theorem sn_div : Spec Tryz.prog [] 32 [polyV [0,0,1],polyV [-1,2]] (.tup [polyV [1 / 4,1 / 2],polyV [1 / 4],.int .i64 0]):=by
 have ok:=divOk_int b1 b2 (by decide) (by decide) (r2_lst (by decide))
 have h:=DivMod_spec [] (pl b1 (by decide) (r3_lst (by decide))) (pl b2 (by decide) (r2_lst (by decide))) (by decide) (.long (by decide) ok)
 rw [show divQ [0,0,1] [-1,2] = [1 / 4,1 / 2] by decide +kernel,show clipP (divR0 [0,0,1] [-1,2]) = [1 / 4] by decide +kernel] at h
 exact h
theorem sn_gcd : Spec Tryz.prog [] 17 [polyV [-1,0,1],polyV [2,2]] (.tup [polyV [1,1],.int .i64 0]):=by
 have ok:=divOk_int b3 b4 (by decide) (by decide) (r2_lst (by decide))
 have mo : MonOk [2,2]:=by
  intro i hi
  exact bd_fd (b4 i) (b4 1) (by decide +kernel) (by decide)
 have e : clipP (divR0 [-1,0,1] [2,2]) = []:=by decide +kernel
 have dr:=DivR.long (by decide) ok
 rw [e] at dr
 have g : GcdR 1 [-1,0,1] [2,2] (monP [2,2]):=.step (by decide) (by decide) (by decide) dr (by decide) (fun i hi => by cases hi) (.done (by decide) mo)
 have h:=GCD_spec [] (pl b3 (by decide) (r3_lst (by decide))) (pl b4 (by decide) (r2_lst (by decide))) g
 rw [show monP [2,2] = [1,1] by decide +kernel] at h
 exact h
theorem sn_res : Spec Tryz.prog [] 25 [polyV (lin 3),polyV (lin 1)] (.tup [rV 2,.int .i64 0]):=by
 have b5:=lin_bd (n:=3) (by decide)
 have b6:=lin_bd (n:=1) (by decide)
 have ok:=divOk_int b5 b6 (by decide) (by decide) (lin_lst _)
 have e : clipP (divR0 (lin 3) (lin 1)) = [-2]:=by decide +kernel
 have dr:=DivR.long (by decide) ok
 rw [e] at dr
 have i1 : Bd 1 50 1:=bd_int (n:=1) (by decide)
 have i2 : Bd 1 50 (-2):=bd_int (n:=-2) (by decide)
 have r1 : ResR (lin 1) [-2] (-2):=by
  have:=ResR.const (p:=lin 1) (q:=[-2]) (by decide) (by decide) rfl (fun i hi => by
   have e : i = 0:=by simp at hi; exact hi
   subst e
   exact bd_fm i1 i2 (by decide +kernel))
  rw [show rpow (cf [-2] 0) ((lin 1).length - 1) = -2 by decide +kernel] at this
  exact this
 have h : ResR (lin 3) (lin 1) 2:=by
  refine ResR.step (a:=divQ (lin 3) (lin 1)) (r:=[-2]) (w:=-2) (by decide) (by decide) (by decide) dr (by decide) (by decide) (fun i hi => ?_) r1 ?_ ?_
  ·have e : i = 0:=by simp at hi; exact hi
   subst e
   exact bd_fm i1 i1 (by decide +kernel)
  ·have e1 : rpow (cf (lin 1) ((lin 1).length - 1)) ((lin 3).length - 1 - [(-2 : Rat)].length + 1) = 1:=by decide +kernel
   rw [e1]
   exact bd_fm i1 i2 (by decide +kernel)
  ·have e1 : rpow (cf (lin 1) ((lin 1).length - 1)) ((lin 3).length - 1 - [(-2 : Rat)].length + 1) * -2 = -2:=by decide +kernel
   rw [e1]
   unfold SgnR
   rw [if_pos (by decide)]
   refine ⟨?_,by decide +kernel⟩
   exact bd_fs (bd_int (n:=0) (N:=50) (by decide)) (bd_int (n:=-2) (N:=50) (by decide)) (by decide +kernel)
 exact Resultant_spec [] (pl b5 (by decide) (lin_lst _)) (pl b6 (by decide) (lin_lst _)) (by decide) (by decide) h
theorem sn_zero : Spec Tryz.prog [] 32 [polyV (lin 1),polyV []] (.tup [polyV [],polyV [],.int .i64 4]) :=
 DivMod_zero [] (pl (lin_bd (n:=1) (by decide)) (by decide) (lin_lst _))
end Ab
