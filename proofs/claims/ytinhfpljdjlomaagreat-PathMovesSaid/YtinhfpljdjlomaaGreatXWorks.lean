import Derived.Test.YtinhfpljdjlomaaGreatXRatSub
import Derived.Test.YtinhfpljdjlomaaGreatXFT
open Go Go.Proofs
namespace Ab
set_option maxRecDepth 1000000
theorem mag1 {n : Int} (h : 0 < n) (hb : n < Dg.B) : Dg.mag n = [n]:=by
 rw [Dg.mag,dif_neg (by omega),Dg.mag_zero (by unfold Dg.B at *; omega)]
 congr 1
 exact Int.emod_eq_of_lt (by omega) hb
def rz : List AV:=[.bool false,.sl [],.bool false,.sl [[.int .u32 1]]]
def rq (n d : Int) : List AV:=[.bool false,.sl [[.int .u32 n]],.bool false,.sl [[.int .u32 d]]]
theorem mk_rz : mkR 0 1 = .agg rz:=by
 unfold mkR
 rw [show Dg.mag (az 0) = [] from Dg.mag_zero (by decide),show Dg.mag (az 1) = [1] from mag1 (by decide) (by decide)]
 rfl
theorem mk_rq {n d : Int} (hn : 0 < n) (hn1 : n < Dg.B) (hd : 0 < d) (hd1 : d < Dg.B) : mkR n d = .agg (rq n d):=by
 have e : ∀ k : Int,0 < k -> k < Dg.B -> Dg.mag (az k) = [k]:=fun k h0 h1 => by
  rw [show az k = k by unfold az; omega]; exact mag1 h0 h1
 unfold mkR
 rw [e n hn hn1,e d hd hd1,show decide (n < 0) = false from decide_eq_false (by omega),show decide (d < 0) = false from decide_eq_false (by omega)]
 rfl
theorem fits_sm {z : Int} (h0 : -9223372036854775808 <= z) (h1 : z <= 9223372036854775807) : Fits z:=fits_i64 h0 h1
theorem sub_third : Spec Tryz.prog [] 74 [.agg (rq 1 3),.agg rz] (.tup [.agg (rq 1 3),.int .i64 0]):=by
 have h:=ratsub_int [] (a:=1) (b:=3) (c:=0) (d:=1) (fits_sm (by decide) (by decide)) (fits_sm (by decide) (by decide)) (fits_sm (by decide) (by decide)) (fits_sm (by decide) (by decide)) (by decide) (by decide) (by decide) (by decide) (fits_sm (by decide) (by decide)) (fits_sm (by decide) (by decide)) (fits_sm (by decide) (by decide)) (fits_sm (by decide) (by decide))
 rw [show ((1 * 1 - 0 * 3 : Int) / ((Int.gcd (1 * 1 - 0 * 3) (3 * 1) : Nat) : Int)) = 1 by decide,show ((3 * 1 : Int) / ((Int.gcd (1 * 1 - 0 * 3) (3 * 1) : Nat) : Int)) = 3 by decide,mk_rz,mk_rq (by decide) (by decide) (by decide) (by decide)] at h
 exact h
theorem sub_one : Spec Tryz.prog [] 74 [.agg (rq 1 1),.agg rz] (.tup [.agg (rq 1 1),.int .i64 0]):=by
 have h:=ratsub_int [] (a:=1) (b:=1) (c:=0) (d:=1) (fits_sm (by decide) (by decide)) (fits_sm (by decide) (by decide)) (fits_sm (by decide) (by decide)) (fits_sm (by decide) (by decide)) (by decide) (by decide) (by decide) (by decide) (fits_sm (by decide) (by decide)) (fits_sm (by decide) (by decide)) (fits_sm (by decide) (by decide)) (fits_sm (by decide) (by decide))
 rw [show ((1 * 1 - 0 * 1 : Int) / ((Int.gcd (1 * 1 - 0 * 1) (1 * 1) : Nat) : Int)) = 1 by decide,show ((1 * 1 : Int) / ((Int.gcd (1 * 1 - 0 * 1) (1 * 1) : Nat) : Int)) = 1 by decide,mk_rz,mk_rq (by decide) (by decide) (by decide) (by decide)] at h
 exact h
theorem add_third : Spec Tryz.prog [] 75 [.agg rz,.agg (rq 1 3)] (.tup [.agg (rq 1 3),.int .i64 0]):=by
 have h:=ratadd_int [] (a:=0) (b:=1) (c:=1) (d:=3) (fits_sm (by decide) (by decide)) (fits_sm (by decide) (by decide)) (fits_sm (by decide) (by decide)) (fits_sm (by decide) (by decide)) (by decide) (by decide) (by decide) (by decide) (fits_sm (by decide) (by decide)) (fits_sm (by decide) (by decide)) (fits_sm (by decide) (by decide)) (fits_sm (by decide) (by decide))
 rw [show ((0 * 3 + 1 * 1 : Int) / ((Int.gcd (0 * 3 + 1 * 1) (1 * 3) : Nat) : Int)) = 1 by decide,show ((1 * 3 : Int) / ((Int.gcd (0 * 3 + 1 * 1) (1 * 3) : Nat) : Int)) = 3 by decide,mk_rz,mk_rq (by decide) (by decide) (by decide) (by decide)] at h
 exact h
theorem add_half : Spec Tryz.prog [] 75 [.agg rz,.agg (rq 1 2)] (.tup [.agg (rq 1 2),.int .i64 0]):=by
 have h:=ratadd_int [] (a:=0) (b:=1) (c:=1) (d:=2) (fits_sm (by decide) (by decide)) (fits_sm (by decide) (by decide)) (fits_sm (by decide) (by decide)) (fits_sm (by decide) (by decide)) (by decide) (by decide) (by decide) (by decide) (fits_sm (by decide) (by decide)) (fits_sm (by decide) (by decide)) (fits_sm (by decide) (by decide)) (fits_sm (by decide) (by decide))
 rw [show ((0 * 2 + 1 * 1 : Int) / ((Int.gcd (0 * 2 + 1 * 1) (1 * 2) : Nat) : Int)) = 1 by decide,show ((1 * 2 : Int) / ((Int.gcd (0 * 2 + 1 * 1) (1 * 2) : Nat) : Int)) = 2 by decide,mk_rz,mk_rq (by decide) (by decide) (by decide) (by decide)] at h
 exact h
def rn (n d : Int) : List AV:=[.bool true,.sl [[.int .u32 n]],.bool false,.sl [[.int .u32 d]]]
theorem mk_rn {n d : Int} (hn : 0 < n) (hn1 : n < Dg.B) (hd : 0 < d) (hd1 : d < Dg.B) : mkR (-n) d = .agg (rn n d):=by
 have e : Dg.mag (az (-n)) = [n]:=by rw [show az (-n) = n by unfold az; omega]; exact mag1 hn hn1
 have e2 : Dg.mag (az d) = [d]:=by rw [show az d = d by unfold az; omega]; exact mag1 hd hd1
 unfold mkR
 rw [e,e2,show decide (-n < 0) = true from decide_eq_true (by omega),show decide (d < 0) = false from decide_eq_false (by omega)]
 rfl
theorem mul_kn {a b c d n m : Int} (ha : -1000 <= a ∧ a <= 1000) (hb : 0 < b ∧ b <= 1000) (hc : -1000 <= c ∧ c <= 1000) (hd : 0 < d ∧ d <= 1000) (g1 : Int.gcd a b = 1) (g2 : Int.gcd c d = 1) (f1 : Fits (a * c)) (f2 : Fits (b * d))
  (h1 : a * c / (Int.gcd (a * c) (b * d) : Int) = n) (h2 : b * d / (Int.gcd (a * c) (b * d) : Int) = m) {x y z : List AV} (ex : mkR a b = .agg x) (ey : mkR c d = .agg y) (ez : mkR n m = .agg z) : Spec Tryz.prog [] 65 [.agg x,.agg y] (.tup [.agg z,.int .i64 0]):=by
 have h:=ratmul_int [] (a:=a) (b:=b) (c:=c) (d:=d) (fits_sm (by omega) (by omega)) (fits_sm (by omega) (by omega)) (fits_sm (by omega) (by omega)) (fits_sm (by omega) (by omega)) hb.1 hd.1 g1 g2 f1 f2
 rw [h1,h2,ex,ey,ez] at h
 exact h
theorem mul_k0 : Spec Tryz.prog [] 65 [.agg (rq 1 3),.agg (rq 1 1)] (.tup [.agg (rq 1 3),.int .i64 0]) :=
 mul_kn (a:=1) (b:=3) (c:=1) (d:=1) (n:=1) (m:=3) (by decide) (by decide) (by decide) (by decide) (by decide) (by decide) (fits_sm (by decide) (by decide)) (fits_sm (by decide) (by decide)) (by decide) (by decide) (mk_rq (by decide) (by decide) (by decide) (by decide)) (mk_rq (by decide) (by decide) (by decide) (by decide)) (mk_rq (by decide) (by decide) (by decide) (by decide))
theorem mul_k1 : Spec Tryz.prog [] 65 [.agg (rq 1 3),.agg rz] (.tup [.agg rz,.int .i64 0]) :=
 mul_kn (a:=1) (b:=3) (c:=0) (d:=1) (n:=0) (m:=1) (by decide) (by decide) (by decide) (by decide) (by decide) (by decide) (fits_sm (by decide) (by decide)) (fits_sm (by decide) (by decide)) (by decide) (by decide) (mk_rq (by decide) (by decide) (by decide) (by decide)) (mk_rz) (mk_rz)
theorem mul_k2 : Spec Tryz.prog [] 65 [.agg (rq 1 1),.agg (rq 1 2)] (.tup [.agg (rq 1 2),.int .i64 0]) :=
 mul_kn (a:=1) (b:=1) (c:=1) (d:=2) (n:=1) (m:=2) (by decide) (by decide) (by decide) (by decide) (by decide) (by decide) (fits_sm (by decide) (by decide)) (fits_sm (by decide) (by decide)) (by decide) (by decide) (mk_rq (by decide) (by decide) (by decide) (by decide)) (mk_rq (by decide) (by decide) (by decide) (by decide)) (mk_rq (by decide) (by decide) (by decide) (by decide))
theorem mul_k3 : Spec Tryz.prog [] 65 [.agg (rq 1 1),.agg (rq 1 4)] (.tup [.agg (rq 1 4),.int .i64 0]) :=
 mul_kn (a:=1) (b:=1) (c:=1) (d:=4) (n:=1) (m:=4) (by decide) (by decide) (by decide) (by decide) (by decide) (by decide) (fits_sm (by decide) (by decide)) (fits_sm (by decide) (by decide)) (by decide) (by decide) (mk_rq (by decide) (by decide) (by decide) (by decide)) (mk_rq (by decide) (by decide) (by decide) (by decide)) (mk_rq (by decide) (by decide) (by decide) (by decide))
theorem mul_k4 : Spec Tryz.prog [] 65 [.agg (rq 1 3),.agg (rn 1 1)] (.tup [.agg (rn 1 3),.int .i64 0]) :=
 mul_kn (a:=1) (b:=3) (c:=(-1)) (d:=1) (n:=(-1)) (m:=3) (by decide) (by decide) (by decide) (by decide) (by decide) (by decide) (fits_sm (by decide) (by decide)) (fits_sm (by decide) (by decide)) (by decide) (by decide) (mk_rq (by decide) (by decide) (by decide) (by decide)) (mk_rn (n:=1) (by decide) (by decide) (by decide) (by decide)) (mk_rn (n:=1) (by decide) (by decide) (by decide) (by decide))
theorem mul_k5 : Spec Tryz.prog [] 65 [.agg rz,.agg (rn 1 1)] (.tup [.agg rz,.int .i64 0]) :=
 mul_kn (a:=0) (b:=1) (c:=(-1)) (d:=1) (n:=0) (m:=1) (by decide) (by decide) (by decide) (by decide) (by decide) (by decide) (fits_sm (by decide) (by decide)) (fits_sm (by decide) (by decide)) (by decide) (by decide) (mk_rz) (mk_rn (n:=1) (by decide) (by decide) (by decide) (by decide)) (mk_rz)
theorem mul_k6 : Spec Tryz.prog [] 65 [.agg (rq 1 2),.agg (rn 1 1)] (.tup [.agg (rn 1 2),.int .i64 0]) :=
 mul_kn (a:=1) (b:=2) (c:=(-1)) (d:=1) (n:=(-1)) (m:=2) (by decide) (by decide) (by decide) (by decide) (by decide) (by decide) (fits_sm (by decide) (by decide)) (fits_sm (by decide) (by decide)) (by decide) (by decide) (mk_rq (by decide) (by decide) (by decide) (by decide)) (mk_rn (n:=1) (by decide) (by decide) (by decide) (by decide)) (mk_rn (n:=1) (by decide) (by decide) (by decide) (by decide))
theorem mul_k7 : Spec Tryz.prog [] 65 [.agg (rq 1 4),.agg (rn 1 1)] (.tup [.agg (rn 1 4),.int .i64 0]) :=
 mul_kn (a:=1) (b:=4) (c:=(-1)) (d:=1) (n:=(-1)) (m:=4) (by decide) (by decide) (by decide) (by decide) (by decide) (by decide) (fits_sm (by decide) (by decide)) (fits_sm (by decide) (by decide)) (by decide) (by decide) (mk_rq (by decide) (by decide) (by decide) (by decide)) (mk_rn (n:=1) (by decide) (by decide) (by decide) (by decide)) (mk_rn (n:=1) (by decide) (by decide) (by decide) (by decide))
theorem mul_k8 : Spec Tryz.prog [] 65 [.agg (rq 1 1),.agg (rq 1 1)] (.tup [.agg (rq 1 1),.int .i64 0]) :=
 mul_kn (a:=1) (b:=1) (c:=1) (d:=1) (n:=1) (m:=1) (by decide) (by decide) (by decide) (by decide) (by decide) (by decide) (fits_sm (by decide) (by decide)) (fits_sm (by decide) (by decide)) (by decide) (by decide) (mk_rq (by decide) (by decide) (by decide) (by decide)) (mk_rq (by decide) (by decide) (by decide) (by decide)) (mk_rq (by decide) (by decide) (by decide) (by decide))
theorem mul_k9 : Spec Tryz.prog [] 65 [.agg (rq 1 1),.agg rz] (.tup [.agg rz,.int .i64 0]) :=
 mul_kn (a:=1) (b:=1) (c:=0) (d:=1) (n:=0) (m:=1) (by decide) (by decide) (by decide) (by decide) (by decide) (by decide) (fits_sm (by decide) (by decide)) (fits_sm (by decide) (by decide)) (by decide) (by decide) (mk_rq (by decide) (by decide) (by decide) (by decide)) (mk_rz) (mk_rz)
theorem mul_k10 : Spec Tryz.prog [] 65 [.agg (rq 1 1),.agg (rn 1 1)] (.tup [.agg (rn 1 1),.int .i64 0]) :=
 mul_kn (a:=1) (b:=1) (c:=(-1)) (d:=1) (n:=(-1)) (m:=1) (by decide) (by decide) (by decide) (by decide) (by decide) (by decide) (fits_sm (by decide) (by decide)) (fits_sm (by decide) (by decide)) (by decide) (by decide) (mk_rq (by decide) (by decide) (by decide) (by decide)) (mk_rn (n:=1) (by decide) (by decide) (by decide) (by decide)) (mk_rn (n:=1) (by decide) (by decide) (by decide) (by decide))
def kn : List (Nat × List AV × AV) -> Nat -> List AV -> Option AV
 | [],_,_ => none
 | (g,a,r) :: l,f,ds => match and (Nat.beq g f) (eqVs a ds) with
  | true => some r
  | false => kn l f ds
theorem kn_ok {P : Program} {gl : List (Nat × AV)} : ∀ {l : List (Nat × List AV × AV)},(∀ p ∈ l,Spec P gl p.1 p.2.1 p.2.2) -> ∀ f ds r,kn l f ds = some r -> Spec P gl f ds r
 | [],_,_,_,_,h => by cases h
 | (g,a,u) :: l,hl,f,ds,r,h => by
  unfold kn at h
  cases hb : and (Nat.beq g f) (eqVs a ds) with
  | true =>
   rw [hb] at h
   simp only [Bool.and_eq_true] at hb
   cases h
   have e1:=Nat.eq_of_beq_eq_true hb.1
   have e2:=eqVs_ok a ds hb.2
   subst e1
   subst e2
   exact hl _ List.mem_cons_self
  | false =>
   rw [hb] at h
   exact kn_ok (fun p hp => hl p (by simp [hp])) f ds r h
def known : List (Nat × List AV × AV):=[(74,[.agg (rq 1 3),.agg rz],.tup [.agg (rq 1 3),.int .i64 0]),(74,[.agg (rq 1 1),.agg rz],.tup [.agg (rq 1 1),.int .i64 0]),
 (75,[.agg rz,.agg (rq 1 3)],.tup [.agg (rq 1 3),.int .i64 0]),(75,[.agg rz,.agg (rq 1 2)],.tup [.agg (rq 1 2),.int .i64 0]),
 (65,[.agg (rq 1 3),.agg (rq 1 1)],.tup [.agg (rq 1 3),.int .i64 0]),(65,[.agg (rq 1 3),.agg rz],.tup [.agg rz,.int .i64 0]),(65,[.agg (rq 1 1),.agg (rq 1 2)],.tup [.agg (rq 1 2),.int .i64 0]),(65,[.agg (rq 1 1),.agg (rq 1 4)],.tup [.agg (rq 1 4),.int .i64 0]),(65,[.agg (rq 1 3),.agg (rn 1 1)],.tup [.agg (rn 1 3),.int .i64 0]),(65,[.agg rz,.agg (rn 1 1)],.tup [.agg rz,.int .i64 0]),(65,[.agg (rq 1 2),.agg (rn 1 1)],.tup [.agg (rn 1 2),.int .i64 0]),(65,[.agg (rq 1 4),.agg (rn 1 1)],.tup [.agg (rn 1 4),.int .i64 0]),(65,[.agg (rq 1 1),.agg (rq 1 1)],.tup [.agg (rq 1 1),.int .i64 0]),(65,[.agg (rq 1 1),.agg rz],.tup [.agg rz,.int .i64 0]),(65,[.agg (rq 1 1),.agg (rn 1 1)],.tup [.agg (rn 1 1),.int .i64 0])]
theorem known_ok : ∀ p ∈ known,Spec Tryz.prog [] p.1 p.2.1 p.2.2:=by
 intro p hp
 simp only [known,List.mem_cons,List.not_mem_nil,or_false] at hp
 rcases hp with rfl | rfl | rfl | rfl | rfl | rfl | rfl | rfl | rfl | rfl | rfl | rfl | rfl | rfl | rfl
 ·exact sub_third
 ·exact sub_one
 ·exact add_third
 ·exact add_half
 ·exact mul_k0
 ·exact mul_k1
 ·exact mul_k2
 ·exact mul_k3
 ·exact mul_k4
 ·exact mul_k5
 ·exact mul_k6
 ·exact mul_k7
 ·exact mul_k8
 ·exact mul_k9
 ·exact mul_k10
theorem works_run : runFX T [] FT 1000 [48] (kn known) 12 14 [] = some (.bool true):=by kernel_rfl
theorem works_spec : Spec Tryz.prog [] 14 [] (.bool true):=runFX_spec T_ok mixed_ok FT_ok (kn_ok known_ok) 12 works_run
end Ab
