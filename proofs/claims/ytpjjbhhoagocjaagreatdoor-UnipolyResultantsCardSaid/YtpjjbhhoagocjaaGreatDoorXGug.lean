import Derived.Test.YtpjjbhhoagocjaaGreatDoorXGue
import Derived.Test.YtpjjbhhoagocjaaGreatDoorXGuf
import Derived.Test.YtpjjbhhoagocjaaGreatDoorXDivs
section
open Go Go.Proofs
namespace Ab
set_option maxRecDepth 100000
set_option maxHeartbeats 1000000
abbrev lf (a : Int) : Nat -> Rat:=cf (lin a)
theorem lf_out {a : Int} {i : Nat} (h : 2 <= i) : lf a i = 0:=cf_out (p:=lin a) h
def wL : List (Int × Nat) -> List Rat
 | [] => [1]
 | x :: D => mulP (wL D) (lin x.1)
def tot : List (Int × Nat) -> Nat
 | [] => 0
 | x :: D => tot D + x.2
abbrev kys (D : List (Int × Nat)) : List Int:=D.map fun x => x.1
theorem lin_len (a : Int) : (lin a).length = 2:=rfl
theorem lin_mul_bd {N : Nat} {f : Nat -> Rat} {a : Int} (ha : a.natAbs <= 9) (h : ∀ i,Bd 1 N (f i)) (k : Nat) : Bd 1 (10 * N) (cnv f (lf a) k):=by
 have h0 : Bd 1 9 (lf a 0):=bd_int (n:=-a) (by omega)
 have h1 : lf a 1 = 1:=rfl
 cases k with
 | zero =>
  rw [cnv_zero]
  have:=(h 0).mul h0
  exact this.mono (by omega)
 | succ k =>
  rw [cnv_back]
  have e : cnv f (shf (lf a)) k = f k:=by
   have : shf (lf a) = one0:=funext fun i => by
    cases i with
    | zero => rfl
    | succ i => exact lf_out (by omega)
   rw [this,cnv_comm,cnv_one]
  rw [e]
  have:=(h k).add ((h (k + 1)).mul h0)
  exact this.mono (by omega)
theorem one_lst : Lst [(1 : Rat)]:=lst_of fun k hk => by
 have : k = 0:=by simpa using hk.symm
 subst this
 show (1 : Rat) ≠ 0
 decide
def Small (D : List (Int × Nat)) : Prop:=∀ x ∈ D,x.1.natAbs <= 9
theorem Small.tl {x : Int × Nat} {D : List (Int × Nat)} (h : Small (x :: D)) : Small D:=fun z hz => h z (List.mem_cons.2 (.inr hz))
theorem Small.hd {x : Int × Nat} {D : List (Int × Nat)} (h : Small (x :: D)) : x.1.natAbs <= 9:=h x (List.mem_cons.2 (.inl rfl))
theorem wL_ok : ∀ D,Small D -> (wL D).length = D.length + 1∧Lst (wL D)∧BdL 1 (10 ^ D.length) (wL D)
 | [],_ => ⟨rfl,one_lst,bdl_of (by decide) fun i hi => by
   have : i = 0:=by simpa [wL] using hi
   subst this
   exact bd_int (n:=1) (by decide)⟩
 | x :: D,h => by
  obtain ⟨h1,h2,h3⟩:=wL_ok D h.tl
  refine ⟨?_,mulP_lst h2 (lin_lst _),fun i => ?_⟩
  ·show (mulP (wL D) (lin x.1)).length = _
   rw [mulP_len0 (by omega) (by rw [lin_len]; decide),h1,lin_len]
   simp
  ·show Bd 1 _ (cf (mulP (wL D) (lin x.1)) i)
   rw [cf_mulP,List.length_cons,Nat.pow_succ,Nat.mul_comm]
   exact lin_mul_bd h.hd h3 i
end Ab
end
section
open Go Go.Proofs
namespace Ab
set_option maxRecDepth 100000
set_option maxHeartbeats 1000000
theorem wL_top : ∀ D,Small D -> cf (wL D) D.length = 1
 | [],_ => rfl
 | x :: D,h => by
  obtain ⟨w1,_,_⟩:=wL_ok D h.tl
  have:=mulP_top (p:=wL D) (q:=lin x.1) (by omega) (by rw [lin_len]; decide)
  rw [mulP_len0 (by omega) (by rw [lin_len]; decide),lin_len,w1] at this
  show cf (mulP (wL D) (lin x.1)) (D.length + 1) = 1
  rw [show D.length + 1 = D.length + 1 + 2 - 1 - 1 by omega,this,Nat.add_sub_cancel,wL_top D h.tl]
  show (1 : Rat) * 1 = 1
  exact Rat.mul_one _
structure SqOk (D : List (Int × Nat)) : Prop where
 s : Small D
 t : tot D <= 12
 l : D.length <= 4
 d : (kys D).Nodup
 p : ∀ x ∈ D,1 <= x.2
theorem sb_int {a N : Nat} {p : List Rat} (h : BdL 1 N p) (h2 : N <= 2 ^ a) : SB a p:=⟨1,N,Nat.one_le_two_pow,h2,h⟩
theorem pow10 {n m : Nat} (h : n <= m) : 10 ^ n <= 10 ^ m:=Nat.pow_le_pow_right (by decide) h
section
variable {D : List (Int × Nat)} (h : SqOk D) {c : Rat} (c0 : c ≠ 0) (bc : Bd 1 50 c)
include h c0 bc
end
end Ab
end
section
open Go Go.Proofs
namespace Ab
set_option maxRecDepth 100000
set_option maxHeartbeats 1000000
section
variable {c : Rat} (c0 : c ≠ 0) (bc : Bd 1 50 c)
include c0 bc
end
theorem lin_sb {a : Int} (ha : a.natAbs <= 9) : SB 6 (lin a):=sb_int (lin_bd (by omega)) (by decide)
theorem mul_lin {p : List Rat} {s : Nat} {a : Int} (hp : SB s p) (hs : s <= 100) (tp : Lst p) (lp : p.length <= 20) (ha : a.natAbs <= 9) : Spec Tryz.prog [] 16 [polyV p,polyV (lin a)] (.tup [polyV (mulP p (lin a)),.int .i64 0]) :=
 Mul_sb [] hp (lin_sb ha) tp (lin_lst a) (by omega) (by rw [lin_len]; decide) (by rw [lin_len]; omega) (by omega)
end Ab
end
