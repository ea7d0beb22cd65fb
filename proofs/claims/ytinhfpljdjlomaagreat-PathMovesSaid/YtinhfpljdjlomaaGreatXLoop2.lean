import Derived.Test.YtinhfpljdjlomaaGreatXLoopsL
open Go Go.Proofs
namespace Ab
set_option maxRecDepth 100000
set_option maxHeartbeats 1000000
theorem mov_none {l : List Sp} {p : Ps} {a : List Mv} (hc : chkS l = 0) (hb : (p.all qB && ((p.length : Int) == ((insP 0 l).length : Int))) = true) (h1 : tgP (insP 0 l) a = none) : movF l p a = .tup [.sl [],.int .i64 170]:=by
 unfold movF
 rw [if_pos hc,hb,h1]
theorem mov_pos {l : List Sp} {p : Ps} {a : List Mv} (hc : chkS l = 0) (hb : (p.all qB && ((p.length : Int) == ((insP 0 l).length : Int))) = false) : movF l p a = .tup [.sl [],.int .i64 1]:=by
 unfold movF
 rw [if_pos hc,hb]
theorem mov_chk {l : List Sp} {p : Ps} {a : List Mv} (hc : chkS l ≠ 0) : movF l p a = .tup [.sl [],.int .i64 (chkS l)]:=by
 unfold movF
 rw [if_neg hc]
theorem lop_pos {l : List Sp} {p : Ps} {a b : List Mv} (hc : chkS l = 0) (hb : (p.all qB && ((p.length : Int) == ((insP 0 l).length : Int))) = false) : lopF l p a b = .tup [.sl [],.int .i64 1]:=by
 unfold lopF
 rw [if_pos hc,hb]
theorem lop_chk {l : List Sp} {p : Ps} {a b : List Mv} (hc : chkS l ≠ 0) : lopF l p a b = .tup [.sl [],.int .i64 (chkS l)]:=by
 unfold lopF
 rw [if_neg hc]
theorem rloop_spec {l : List Sp} {p : Ps} {a b : List Mv} (h : SpsOk l) (hl : (l.length : Int) <= 60) (hp : QDs p) (hpl : (p.length : Int) <= 9223372036854775807) (ha : MvsOk a) (hb : MvsOk b) (hal : a.length <= 60) (hbl : b.length <= 60) : Spec Tryz.prog [] 22 [stpv l,.sl p,mvv a,mvv b] (lopF l p a b):=by
 have m1:=rmove_spec h hl hp hpl ha (by omega)
 have m2:=rmove_spec h hl hp hpl hb (by omega)
 by_cases hc : chkS l = 0
 rotate_left
 ·rw [lop_chk hc]
  rw [mov_chk hc] at m1
  refine spec_fn T_ok mixed_ok 0 Tryz.func22 fn_ok22 (by kernel_rfl) ?_
  first | refine Exists.intro _ (And.intro (m1) ?_) | refine Hn_by (Exists.intro _ (And.intro (m1) ?_))
  refine brN (fun _ => ?_) (fun e => absurd e hc)
  exact And.intro (Or.inr rfl) rfl
 have h20:=chk_ins hc
 have c:=rInputs_spec h hl
 unfold insF at c
 rw [if_pos hc] at c
 cases hb1 : (p.all qB && ((p.length : Int) == ((insP 0 l).length : Int))) with
 | false =>
  rw [lop_pos hc hb1]
  rw [mov_pos hc hb1] at m1
  refine spec_fn T_ok mixed_ok 0 Tryz.func22 fn_ok22 (by kernel_rfl) ?_
  first | refine Exists.intro _ (And.intro (m1) ?_) | refine Hn_by (Exists.intro _ (And.intro (m1) ?_))
  repeat (first | refine gT ?_ | refine gF ?_ | refine brT ?_ | refine brF ?_)
  exact And.intro (Or.inr rfl) rfl
 | true =>
 obtain ⟨okp,hpl2⟩:=posB_of hb1
 cases ht : tgP (insP 0 l) a with
 | none =>
  rw [lop_none hc hb1 (.inl ht)]
  rw [mov_none hc hb1 ht] at m1
  refine spec_fn T_ok mixed_ok 0 Tryz.func22 fn_ok22 (by kernel_rfl) ?_
  first | refine Exists.intro _ (And.intro (m1) ?_) | refine Hn_by (Exists.intro _ (And.intro (m1) ?_))
  repeat (first | refine gT ?_ | refine gF ?_ | refine brT ?_ | refine brF ?_)
  exact And.intro (Or.inr rfl) rfl
 | some t =>
 rw [mov_some hc hb1 ht] at m1
 cases hu : tgP (insP 0 l) b with
 | none =>
  rw [lop_none hc hb1 (.inr (.inl hu))]
  rw [mov_none hc hb1 hu] at m2
  refine spec_fn T_ok mixed_ok 0 Tryz.func22 fn_ok22 (by kernel_rfl) ?_
  first | refine Exists.intro _ (And.intro (m1) ?_) | refine Hn_by (Exists.intro _ (And.intro (m1) ?_))
  repeat (first | refine gT ?_ | refine gF ?_ | refine brT ?_ | refine brF ?_)
  first | refine Exists.intro _ (And.intro (m2) ?_) | refine Hn_by (Exists.intro _ (And.intro (m2) ?_))
  repeat (first | refine gT ?_ | refine gF ?_ | refine brT ?_ | refine brF ?_)
  exact And.intro (Or.inr rfl) rfl
 | some u =>
 rw [mov_some hc hb1 hu] at m2
 obtain ⟨t1,t2,t3⟩:=tgP_ok ht
 obtain ⟨u1,u2,u3⟩:=tgP_ok hu
 have hqa:=qoks ht
 have hqb:=qoks hu
 have okq : Okp (aftL p (t.zip a)):=aftL_ok okp (zip_to hqa)
 have lq : (aftL p (t.zip a)).length = p.length:=aftL_len _ _
 have f2:=rafter_spec h20 okq (by rw [lq,hpl2]) hu hqb (by omega)
 obtain ⟨i1,i2⟩:=tgP_app ht hu
 have hi9 : ((insP 0 l).length : Int) <= 9223372036854775807:=by omega
 refine spec_fn T_ok mixed_ok 0 Tryz.func22 fn_ok22 (by kernel_rfl) ?_
 first | refine Exists.intro _ (And.intro (m1) ?_) | refine Hn_by (Exists.intro _ (And.intro (m1) ?_))
 repeat (first | refine gT ?_ | refine gF ?_ | refine brT ?_ | refine brF ?_)
 first | refine Exists.intro _ (And.intro (m2) ?_) | refine Hn_by (Exists.intro _ (And.intro (m2) ?_))
 repeat (first | refine gT ?_ | refine gF ?_ | refine brT ?_ | refine brF ?_)
 first | refine Exists.intro _ (And.intro (c) ?_) | refine Hn_by (Exists.intro _ (And.intro (c) ?_))
 refine aw_loopN 0 (fun i : Nat => stOf [(1,.sl p),(2,mvv a),(3,mvv b),(10,pthv [p,aftL p (t.zip a)]),(12,pthv [p,aftL p (u.zip b)]),(14,insv (insP 0 l)),(16,.int .i64 (i : Int))] [] 0) (fun i => i <= a.length ∧ ∀ n ∈ t.take i,n ∉ u) (fun i => a.length - i) 0 ⟨Nat.zero_le _,fun n h => by simp at h⟩
  (.inl (le_by ⟨rfl,rfl,rfl,rfl,rfl,rfl,rfl,trivial⟩ trivial (Nat.le_refl _))) (by kernel_rfl) ?_
 rintro i ⟨hi,hd⟩ P hP
 refine br (fun g => ?_) (fun g => ?_)
 ·have g : i < a.length:=by have : (i : Int) < ((a.map mrow).length : Int):=g; rw [mrow_len] at this; omega
  obtain ⟨m,hm⟩:=get_of g
  obtain ⟨n,hn⟩:=get_of (l:=t) (i:=i) (by omega)
  have v1:=input_spec (ins:=insP 0 l) (m:=m) hi9
  have hin:=inI_some (t2 i n m hn hm)
  refine aw_loopN 0 (fun k : Nat => stOf [(1,.sl p),(2,mvv a),(3,mvv b),(10,pthv [p,aftL p (t.zip a)]),(12,pthv [p,aftL p (u.zip b)]),(14,insv (insP 0 l)),(16,.int .i64 (i : Int)),(17,.int .i64 (k : Int))] [] 0) (fun k => k <= b.length ∧ n ∉ u.take k) (fun k => b.length - k) 0 ⟨Nat.zero_le _,by simp⟩
   (.inl (le_by ⟨rfl,rfl,rfl,rfl,rfl,rfl,rfl,rfl,trivial⟩ trivial (Nat.le_refl _))) (by kernel_rfl) ?_
  rintro k ⟨hk,hnt⟩ P2 hP2
  refine br (fun g2 => ?_) (fun g2 => ?_)
  ·have g2 : k < b.length:=by have : (k : Int) < ((b.map mrow).length : Int):=g2; rw [mrow_len] at this; omega
   obtain ⟨o,ho⟩:=get_of g2
   obtain ⟨j,hj⟩:=get_of (l:=u) (i:=k) (by omega)
   have v2:=input_spec (ins:=insP 0 l) (m:=o) hi9
   have hjn:=inI_some (u2 k j o hj ho)
   refine And.intro (by kernel_rfl) ?_
   refine And.intro (Int.natCast_nonneg i) (Exists.intro _ (And.intro (mrow_at hm) ?_))
   first | refine Exists.intro _ (And.intro (v1) ?_) | refine Hn_by (Exists.intro _ (And.intro (v1) ?_))
   refine And.intro (Int.natCast_nonneg k) (Exists.intro _ (And.intro (mrow_at ho) ?_))
   first | refine Exists.intro _ (And.intro (v2) ?_) | refine Hn_by (Exists.intro _ (And.intro (v2) ?_))
   refine brE (fun e => ?_) (fun ne => ?_)
   ·have ejn : j = n:=by rw [hjn,hin] at e; omega
    rw [lop_none hc hb1 (.inr (.inr (i2 ⟨n,by rw [<- ejn]; exact List.mem_of_getElem? hj,List.mem_of_getElem? hn⟩)))]
    exact And.intro (Or.inr rfl) rfl
   ·refine hP2 (k + 1) _ ?_ ⟨g2,fun h => ?_⟩ (by omega)
    ·refine .inl (le_by ⟨rfl,rfl,rfl,rfl,rfl,rfl,rfl,int_eq ?_,trivial⟩ trivial (Nat.le_refl _))
     exact w64_succ g2 (by omega)
    ·rw [take_snc2 hj] at h
     rcases List.mem_append.1 h with h | h
     ·exact hnt h
     ·rw [List.mem_singleton.1 h] at hin
      exact ne (by rw [hjn,hin])
  ·have g2 : ¬ k < b.length:=by have : ¬ (k : Int) < ((b.map mrow).length : Int):=g2; rw [mrow_len] at this; omega
   rw [List.take_of_length_le (by omega)] at hnt
   refine hP (i + 1) _ ?_ ⟨g,fun q hq => ?_⟩ (by omega)
   ·refine .inl (le_by ⟨rfl,rfl,rfl,rfl,rfl,rfl,int_eq ?_,trivial⟩ trivial (Nat.le_refl _))
    exact w64_succ g (by omega)
   ·rw [take_snc2 hn] at hq
    rcases List.mem_append.1 hq with hq | hq
    ·exact hd q hq
    ·rw [List.mem_singleton.1 hq]; exact hnt
 have g : ¬ i < a.length:=by have : ¬ (i : Int) < ((a.map mrow).length : Int):=g; rw [mrow_len] at this; omega
 rw [List.take_of_length_le (by omega)] at hd
 rw [lop_some hc hb1 ht hu (i1 fun n h1 h2 => hd n h2 h1)]
 refine And.intro (by kernel_rfl) ?_
 refine And.intro (Int.le_refl 0) (Exists.intro _ (And.intro rfl ?_))
 refine And.intro (by decide) (Exists.intro _ (And.intro rfl ?_))
 refine And.intro (by decide) (Exists.intro _ (And.intro rfl ?_))
 first | refine Exists.intro _ (And.intro (f2) ?_) | refine Hn_by (Exists.intro _ (And.intro (f2) ?_))
 refine And.intro (by decide) (Exists.intro _ (And.intro rfl ?_))
 refine And.intro (show p.length * 64 <= 140737488355328 by omega) (And.intro (show p.length <= maxLen by simp only [maxLen]; omega) (And.intro (rowsOk4 hp) ?_))
 exact And.intro (Or.inr rfl) (And.intro (Nat.le_refl 5) rfl)
end Ab
