import Derived.Test.YtinhfpljdjlomaaGreatXPiece
open Go Go.Proofs
namespace Ab
set_option maxRecDepth 100000
set_option maxHeartbeats 1000000
def tq (z : Int) : Int × Int:=(z / Int.gcd z 4096,4096 / Int.gcd z 4096)
theorem tq_qv {z : Int} (h0 : -9223372036854775808 <= z) (h1 : z <= 9223372036854775807) : Qv (tq z):=qn_reduce (fits_i64 h0 h1) (fits_i64 (by decide) (by decide)) (by decide)
noncomputable def ptO (x y : Int × Int) (re im : Int) : Option Bx :=
 (oSub y x).bind fun d => (oMul d (tq re)).bind fun p => (oAdd x p).bind fun q => (oMul d (tq im)).bind fun r => (oEx q).bind fun a => (oEx r).bind fun b => some ⟨a.a,a.b,b.a,b.b,false⟩
theorem oEx_form {x : Int × Int} {b : Bx} (h : oEx x = some b) : b.av = bx b.a b.b 0 0 false:=by
 unfold oEx at h
 cases hb : bP (Fits (x.1 * 16777216) ∧ ExOk x.1 x.2) with
 | false => rw [hb] at h; cases h
 | true => rw [hb] at h; cases h; rfl
theorem bAV_ex {x : Int × Int} {b : Bx} (h : oEx x = some b) : bAV (some b) = .tup [bx b.a b.b 0 0 false,.int .i64 0]:=by
 show AV.tup [b.av,.int .i64 0] = _
 rw [oEx_form h]
abbrev qc (x : Int × Int) : List AV:=qr x.1 x.2
section
variable {x y : Int × Int} (hx : Qv x) (hy : Qv y) {re im : Int} (r0 : -9223372036854775808 <= re) (r1 : re <= 9223372036854775807) (i0 : -9223372036854775808 <= im) (i1 : im <= 9223372036854775807)
include hx hy r0 r1 i0 i1
theorem point_tot : Spec Tryz.prog [] 61 [mkR x.1 x.2,mkR y.1 y.2,.agg [.int .i64 re,.int .i64 im]] (bAV (ptO x y re im)):=by
 have s1:=rof_int [] (n:=re) (d:=4096) r0 r1 (by decide) (by decide)
 have s2:=rof_int [] (n:=im) (d:=4096) i0 i1 (by decide) (by decide)
 have s3:=rqsub_tot [] hy hx
 rw [sub_av y x] at s3
 unfold ptO
 have k1:=tq_qv r0 r1
 have k2:=tq_qv i0 i1
 cases e1 : oSub y x with
 | none => rw [e1] at s3; exact point_0 (re:=re) (im:=im) s3
 | some d =>
 rw [e1] at s3
 have hd:=oSub_qv hy hx e1
 have s4:=rqmul_tot [] hd k1
 rw [mul_av d (tq re)] at s4
 rw [Option.bind_some]
 cases e2 : oMul d (tq re) with
 | none => rw [e2] at s4; exact point_1 s1 s2 s3 s4
 | some p =>
 rw [e2] at s4
 have hp':=oMul_qv hd k1 e2
 have s5:=rqadd_tot [] hx hp'
 rw [add_av x p] at s5
 rw [Option.bind_some]
 cases e3 : oAdd x p with
 | none => rw [e3] at s5; exact point_2 s1 s2 s3 s4 s5
 | some q =>
 rw [e3] at s5
 have hq:=oAdd_qv hx hp' e3
 have s6:=rqmul_tot [] hd k2
 rw [mul_av d (tq im)] at s6
 rw [Option.bind_some]
 cases e4 : oMul d (tq im) with
 | none => rw [e4] at s6; exact point_3 s1 s2 s3 s4 s5 s6
 | some r =>
 rw [e4] at s6
 have hr:=oMul_qv hd k2 e4
 have s7:=(exact_tot hq).2
 have s8:=(exact_tot hr).2
 rw [Option.bind_some]
 cases e5 : oEx q with
 | none => rw [e5] at s7; exact point_4 s1 s2 s3 s4 s5 s6 s7
 | some a =>
 rw [e5] at s7
 rw [Option.bind_some]
 rw [bAV_ex e5] at s7
 cases e6 : oEx r with
 | none => rw [e6] at s8; exact point_5 s1 s2 s3 s4 s5 s6 s7 s8
 | some b =>
  rw [e6] at s8
  rw [bAV_ex e6] at s8
  exact point_ok s1 s2 s3 s4 s5 s6 s7 s8
theorem piece_tot {froms tos : List (List AV)} {i : Nat} (ht : tos[i]? = some (qc y)) (hf : froms[i]? = some (qc x)) {tm : Nat -> AV} {hp : Nat -> Option Blk} {K : AV -> St -> Prop} (n : Nat) (h1 : hp 1 = some (.box [.sl froms])) (h2 : hp 2 = some (.box [.sl tos]))
  (hcl : ∀ k,k < 4 -> blB 4 (hp k) = true) {res : AV} (hres : bAV (ptO x y re im) = res) (hK : K res ⟨tm,cutH 4 hp,4⟩) : Hn Tryz.prog T [] (n + 1) (.fn 72) [.int .i64 (i : Int),.agg [.int .i64 re,.int .i64 im],.bp 2 0,.bp 1 0] ⟨tm,hp,4⟩ K:=by
 subst hres
 have s1:=ratof_int [] (n:=re) (d:=4096) r0 r1 (by decide) (by decide)
 have s2:=ratof_int [] (n:=im) (d:=4096) i0 i1 (by decide) (by decide)
 have s3:=ratsub_tot [] hy hx
 rw [sub_av y x] at s3
 unfold ptO at hK
 have k1:=tq_qv r0 r1
 have k2:=tq_qv i0 i1
 cases e1 : oSub y x with
 | none => rw [e1] at s3 hK; exact piece_0 ht hf s1 s2 s3 n h1 h2 hcl hK
 | some d =>
 rw [e1] at s3 hK
 have hd:=oSub_qv hy hx e1
 have s4:=ratmul_tot [] hd k1
 rw [mul_av d (tq re)] at s4
 rw [Option.bind_some] at hK
 cases e2 : oMul d (tq re) with
 | none => rw [e2] at s4 hK; exact piece_1 ht hf s1 s2 s3 s4 n h1 h2 hcl hK
 | some p =>
 rw [e2] at s4 hK
 have hp':=oMul_qv hd k1 e2
 have s5:=ratadd_tot [] hx hp'
 rw [add_av x p] at s5
 rw [Option.bind_some] at hK
 cases e3 : oAdd x p with
 | none => rw [e3] at s5 hK; exact piece_2 ht hf s1 s2 s3 s4 s5 n h1 h2 hcl hK
 | some q =>
 rw [e3] at s5 hK
 have hq:=oAdd_qv hx hp' e3
 have s6:=ratmul_tot [] hd k2
 rw [mul_av d (tq im)] at s6
 rw [Option.bind_some] at hK
 cases e4 : oMul d (tq im) with
 | none => rw [e4] at s6 hK; exact piece_3 ht hf s1 s2 s3 s4 s5 s6 n h1 h2 hcl hK
 | some r =>
 rw [e4] at s6 hK
 have hr:=oMul_qv hd k2 e4
 have s7:=(exact_tot hq).1
 have s8:=(exact_tot hr).1
 rw [Option.bind_some] at hK
 cases e5 : oEx q with
 | none => rw [e5] at s7 hK; exact piece_4 ht hf s1 s2 s3 s4 s5 s6 s7 n h1 h2 hcl hK
 | some a =>
 rw [e5] at s7 hK
 rw [Option.bind_some] at hK
 rw [bAV_ex e5] at s7
 cases e6 : oEx r with
 | none => rw [e6] at s8 hK; exact piece_5 ht hf s1 s2 s3 s4 s5 s6 s7 s8 n h1 h2 hcl hK
 | some b =>
  rw [e6] at s8 hK
  rw [bAV_ex e6] at s8
  exact piece_ok ht hf s1 s2 s3 s4 s5 s6 s7 s8 n h1 h2 hcl hK
end
end Ab
