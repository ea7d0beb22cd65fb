import Derived.Test.YtinhfpljdjlomaaGreatXGi
section
open Go Go.Proofs
namespace Ab
set_option maxRecDepth 100000
set_option maxHeartbeats 1000000
def arF (op : Int) : List Int × Int × Bool :=
 if op = 1 then ([],1,false) else if op = 2 then ([0],1,false) else if op = 3 then ([1,1],2,false) else if op = 4 then ([2,2],1,false)
 else if op = 5 then ([1,1],3,false) else if op = 6 then ([1,1,1],3,false) else if op = 7 then ([1,1,1],3,false) else if op = 8 then ([2,3],1,true)
 else if op = 9 then ([3,3],1,true) else if op = 10 then ([1,2],2,false) else if op = 11 then ([1,2],2,false) else if op = 12 then ([1,1],1,false)
 else if op = 13 then ([1,2],1,false) else if op = 14 then ([1,1,1],2,true) else if op = 15 then ([1,3],2,true) else if op = 16 then ([3],1,false)
 else ([],0,false)
abbrev lin (l : List Int) : AV:=.sl (irows .i64 l)
def arV (x : List Int × Int × Bool) : AV:=.tup [lin x.1,.int .i64 x.2.1,.bool x.2.2]
theorem ar_rest {op : Int} (h1 : op ≠ 1) (h2 : op ≠ 2) (h3 : op ≠ 3) (h4 : op ≠ 4) (h5 : op ≠ 5) (h6 : op ≠ 6) (h7 : op ≠ 7) (h8 : op ≠ 8) (h9 : op ≠ 9) (h10 : op ≠ 10) (h11 : op ≠ 11) (h12 : op ≠ 12) (h13 : op ≠ 13) (h14 : op ≠ 14) (h15 : op ≠ 15) (h16 : op ≠ 16) : arF op = ([],0,false):=by
 unfold arF
 rw [if_neg h1,if_neg h2,if_neg h3,if_neg h4,if_neg h5,if_neg h6,if_neg h7,if_neg h8,if_neg h9,if_neg h10,if_neg h11,if_neg h12,if_neg h13,if_neg h14,if_neg h15,if_neg h16]
theorem ar_in {op : Int} (h : (arF op).2.1 ≠ 0) : 1 <= op ∧ op <= 16:=by
 by_cases g : 1 <= op ∧ op <= 16
 ·exact g
 ·rw [ar_rest (by omega) (by omega) (by omega) (by omega) (by omega) (by omega) (by omega) (by omega) (by omega) (by omega) (by omega) (by omega) (by omega) (by omega) (by omega) (by omega)] at h
  exact absurd rfl h
theorem ar_of {op : Int} (h : 1 <= op ∧ op <= 16) : (arF op).2.1 ≠ 0 ∧ (arF op).1.length <= 3:=by
 have : op = 1 ∨ op = 2 ∨ op = 3 ∨ op = 4 ∨ op = 5 ∨ op = 6 ∨ op = 7 ∨ op = 8 ∨ op = 9 ∨ op = 10 ∨ op = 11 ∨ op = 12 ∨ op = 13 ∨ op = 14 ∨ op = 15 ∨ op = 16:=by omega
 rcases this with rfl | rfl | rfl | rfl | rfl | rfl | rfl | rfl | rfl | rfl | rfl | rfl | rfl | rfl | rfl | rfl <;> decide
theorem arity_spec {op : Int} : Spec Tryz.prog [] 117 [.int .i64 op] (arV (arF op)):=by
  refine spec_fn T_ok mixed_ok 0 Tryz.func117 fn_ok117 (by kernel_rfl) ?_
  refine brE (fun e => ?_) (fun h1 => ?_)
  ·subst e
   repeat (first | refine gT ?_ | refine gF ?_ | refine brT ?_ | refine brF ?_)
   first | exact And.intro (Or.inr rfl) rfl | exact And.intro (Or.inr rfl) (And.intro (Nat.le_refl _) rfl)
  refine brE (fun e => ?_) (fun h2 => ?_)
  ·subst e
   repeat (first | refine gT ?_ | refine gF ?_ | refine brT ?_ | refine brF ?_)
   first | exact And.intro (Or.inr rfl) rfl | exact And.intro (Or.inr rfl) (And.intro (Nat.le_refl _) rfl)
  refine brE (fun e => ?_) (fun h3 => ?_)
  ·subst e
   repeat (first | refine gT ?_ | refine gF ?_ | refine brT ?_ | refine brF ?_)
   first | exact And.intro (Or.inr rfl) rfl | exact And.intro (Or.inr rfl) (And.intro (Nat.le_refl _) rfl)
  refine brE (fun e => ?_) (fun h4 => ?_)
  ·subst e
   repeat (first | refine gT ?_ | refine gF ?_ | refine brT ?_ | refine brF ?_)
   first | exact And.intro (Or.inr rfl) rfl | exact And.intro (Or.inr rfl) (And.intro (Nat.le_refl _) rfl)
  refine brE (fun e => ?_) (fun h5 => ?_)
  ·subst e
   repeat (first | refine gT ?_ | refine gF ?_ | refine brT ?_ | refine brF ?_)
   first | exact And.intro (Or.inr rfl) rfl | exact And.intro (Or.inr rfl) (And.intro (Nat.le_refl _) rfl)
  refine brE (fun e => ?_) (fun h6 => ?_)
  ·subst e
   repeat (first | refine gT ?_ | refine gF ?_ | refine brT ?_ | refine brF ?_)
   first | exact And.intro (Or.inr rfl) rfl | exact And.intro (Or.inr rfl) (And.intro (Nat.le_refl _) rfl)
  refine brE (fun e => ?_) (fun h7 => ?_)
  ·subst e
   repeat (first | refine gT ?_ | refine gF ?_ | refine brT ?_ | refine brF ?_)
   first | exact And.intro (Or.inr rfl) rfl | exact And.intro (Or.inr rfl) (And.intro (Nat.le_refl _) rfl)
  refine brE (fun e => ?_) (fun h8 => ?_)
  ·subst e
   repeat (first | refine gT ?_ | refine gF ?_ | refine brT ?_ | refine brF ?_)
   first | exact And.intro (Or.inr rfl) rfl | exact And.intro (Or.inr rfl) (And.intro (Nat.le_refl _) rfl)
  refine brE (fun e => ?_) (fun h9 => ?_)
  ·subst e
   repeat (first | refine gT ?_ | refine gF ?_ | refine brT ?_ | refine brF ?_)
   first | exact And.intro (Or.inr rfl) rfl | exact And.intro (Or.inr rfl) (And.intro (Nat.le_refl _) rfl)
  refine brE (fun e => ?_) (fun h10 => ?_)
  ·subst e
   repeat (first | refine gT ?_ | refine gF ?_ | refine brT ?_ | refine brF ?_)
   first | exact And.intro (Or.inr rfl) rfl | exact And.intro (Or.inr rfl) (And.intro (Nat.le_refl _) rfl)
  refine brE (fun e => ?_) (fun h11 => ?_)
  ·subst e
   repeat (first | refine gT ?_ | refine gF ?_ | refine brT ?_ | refine brF ?_)
   first | exact And.intro (Or.inr rfl) rfl | exact And.intro (Or.inr rfl) (And.intro (Nat.le_refl _) rfl)
  refine brE (fun e => ?_) (fun h12 => ?_)
  ·subst e
   repeat (first | refine gT ?_ | refine gF ?_ | refine brT ?_ | refine brF ?_)
   first | exact And.intro (Or.inr rfl) rfl | exact And.intro (Or.inr rfl) (And.intro (Nat.le_refl _) rfl)
  refine brE (fun e => ?_) (fun h13 => ?_)
  ·subst e
   repeat (first | refine gT ?_ | refine gF ?_ | refine brT ?_ | refine brF ?_)
   first | exact And.intro (Or.inr rfl) rfl | exact And.intro (Or.inr rfl) (And.intro (Nat.le_refl _) rfl)
  refine brE (fun e => ?_) (fun h14 => ?_)
  ·subst e
   repeat (first | refine gT ?_ | refine gF ?_ | refine brT ?_ | refine brF ?_)
   first | exact And.intro (Or.inr rfl) rfl | exact And.intro (Or.inr rfl) (And.intro (Nat.le_refl _) rfl)
  refine brE (fun e => ?_) (fun h15 => ?_)
  ·subst e
   repeat (first | refine gT ?_ | refine gF ?_ | refine brT ?_ | refine brF ?_)
   first | exact And.intro (Or.inr rfl) rfl | exact And.intro (Or.inr rfl) (And.intro (Nat.le_refl _) rfl)
  refine brE (fun e => ?_) (fun h16 => ?_)
  ·subst e
   repeat (first | refine gT ?_ | refine gF ?_ | refine brT ?_ | refine brF ?_)
   first | exact And.intro (Or.inr rfl) rfl | exact And.intro (Or.inr rfl) (And.intro (Nat.le_refl _) rfl)
  rw [ar_rest h1 h2 h3 h4 h5 h6 h7 h8 h9 h10 h11 h12 h13 h14 h15 h16]
  exact And.intro (Or.inr rfl) rfl
theorem arity9_spec {op : Int} : Spec Tryz.prog [] 147 [.int .i64 op] (arV (arF op)):=by
  refine spec_fn T_ok mixed_ok 0 Tryz.func147 fn_ok147 (by kernel_rfl) ?_
  refine brE (fun e => ?_) (fun h1 => ?_)
  ·subst e
   repeat (first | refine gT ?_ | refine gF ?_ | refine brT ?_ | refine brF ?_)
   first | exact And.intro (Or.inr rfl) rfl | exact And.intro (Or.inr rfl) (And.intro (Nat.le_refl _) rfl)
  refine brE (fun e => ?_) (fun h2 => ?_)
  ·subst e
   repeat (first | refine gT ?_ | refine gF ?_ | refine brT ?_ | refine brF ?_)
   first | exact And.intro (Or.inr rfl) rfl | exact And.intro (Or.inr rfl) (And.intro (Nat.le_refl _) rfl)
  refine brE (fun e => ?_) (fun h3 => ?_)
  ·subst e
   repeat (first | refine gT ?_ | refine gF ?_ | refine brT ?_ | refine brF ?_)
   first | exact And.intro (Or.inr rfl) rfl | exact And.intro (Or.inr rfl) (And.intro (Nat.le_refl _) rfl)
  refine brE (fun e => ?_) (fun h4 => ?_)
  ·subst e
   repeat (first | refine gT ?_ | refine gF ?_ | refine brT ?_ | refine brF ?_)
   first | exact And.intro (Or.inr rfl) rfl | exact And.intro (Or.inr rfl) (And.intro (Nat.le_refl _) rfl)
  refine brE (fun e => ?_) (fun h5 => ?_)
  ·subst e
   repeat (first | refine gT ?_ | refine gF ?_ | refine brT ?_ | refine brF ?_)
   first | exact And.intro (Or.inr rfl) rfl | exact And.intro (Or.inr rfl) (And.intro (Nat.le_refl _) rfl)
  refine brE (fun e => ?_) (fun h6 => ?_)
  ·subst e
   repeat (first | refine gT ?_ | refine gF ?_ | refine brT ?_ | refine brF ?_)
   first | exact And.intro (Or.inr rfl) rfl | exact And.intro (Or.inr rfl) (And.intro (Nat.le_refl _) rfl)
  refine brE (fun e => ?_) (fun h7 => ?_)
  ·subst e
   repeat (first | refine gT ?_ | refine gF ?_ | refine brT ?_ | refine brF ?_)
   first | exact And.intro (Or.inr rfl) rfl | exact And.intro (Or.inr rfl) (And.intro (Nat.le_refl _) rfl)
  refine brE (fun e => ?_) (fun h8 => ?_)
  ·subst e
   repeat (first | refine gT ?_ | refine gF ?_ | refine brT ?_ | refine brF ?_)
   first | exact And.intro (Or.inr rfl) rfl | exact And.intro (Or.inr rfl) (And.intro (Nat.le_refl _) rfl)
  refine brE (fun e => ?_) (fun h9 => ?_)
  ·subst e
   repeat (first | refine gT ?_ | refine gF ?_ | refine brT ?_ | refine brF ?_)
   first | exact And.intro (Or.inr rfl) rfl | exact And.intro (Or.inr rfl) (And.intro (Nat.le_refl _) rfl)
  refine brE (fun e => ?_) (fun h10 => ?_)
  ·subst e
   repeat (first | refine gT ?_ | refine gF ?_ | refine brT ?_ | refine brF ?_)
   first | exact And.intro (Or.inr rfl) rfl | exact And.intro (Or.inr rfl) (And.intro (Nat.le_refl _) rfl)
  refine brE (fun e => ?_) (fun h11 => ?_)
  ·subst e
   repeat (first | refine gT ?_ | refine gF ?_ | refine brT ?_ | refine brF ?_)
   first | exact And.intro (Or.inr rfl) rfl | exact And.intro (Or.inr rfl) (And.intro (Nat.le_refl _) rfl)
  refine brE (fun e => ?_) (fun h12 => ?_)
  ·subst e
   repeat (first | refine gT ?_ | refine gF ?_ | refine brT ?_ | refine brF ?_)
   first | exact And.intro (Or.inr rfl) rfl | exact And.intro (Or.inr rfl) (And.intro (Nat.le_refl _) rfl)
  refine brE (fun e => ?_) (fun h13 => ?_)
  ·subst e
   repeat (first | refine gT ?_ | refine gF ?_ | refine brT ?_ | refine brF ?_)
   first | exact And.intro (Or.inr rfl) rfl | exact And.intro (Or.inr rfl) (And.intro (Nat.le_refl _) rfl)
  refine brE (fun e => ?_) (fun h14 => ?_)
  ·subst e
   repeat (first | refine gT ?_ | refine gF ?_ | refine brT ?_ | refine brF ?_)
   first | exact And.intro (Or.inr rfl) rfl | exact And.intro (Or.inr rfl) (And.intro (Nat.le_refl _) rfl)
  refine brE (fun e => ?_) (fun h15 => ?_)
  ·subst e
   repeat (first | refine gT ?_ | refine gF ?_ | refine brT ?_ | refine brF ?_)
   first | exact And.intro (Or.inr rfl) rfl | exact And.intro (Or.inr rfl) (And.intro (Nat.le_refl _) rfl)
  refine brE (fun e => ?_) (fun h16 => ?_)
  ·subst e
   repeat (first | refine gT ?_ | refine gF ?_ | refine brT ?_ | refine brF ?_)
   first | exact And.intro (Or.inr rfl) rfl | exact And.intro (Or.inr rfl) (And.intro (Nat.le_refl _) rfl)
  rw [ar_rest h1 h2 h3 h4 h5 h6 h7 h8 h9 h10 h11 h12 h13 h14 h15 h16]
  exact And.intro (Or.inr rfl) rfl
end Ab
end
section
open Go Go.Proofs
namespace Ab
set_option maxRecDepth 100000
set_option maxHeartbeats 1000000
structure Sp where
 nm : ByteArray
 op : Int
 ar : List Int
 xa : Bool
 xl : List Int
 xc : Bool
 xm : List Int
 ya : Bool
 yl : List Int
 yc : Bool
 ym : List Int
 br : Int
def Sp.x (s : Sp) : List AV:=[.bool s.xa,lim s.xl,.bool s.xc,lim s.xm]
def Sp.y (s : Sp) : List AV:=[.bool s.ya,lim s.yl,.bool s.yc,lim s.ym]
def srow (s : Sp) : List AV:=[.str s.nm,.int .i64 s.op,lin s.ar,.bool s.xa,lim s.xl,.bool s.xc,lim s.xm,.bool s.ya,lim s.yl,.bool s.yc,lim s.ym,.int .i64 s.br]
abbrev stpv (l : List Sp) : AV:=.sl (l.map srow)
def arT (s : Sp) : Int:=(arF s.op).2.1
def arB (s : Sp) : Bool:=(arF s.op).2.2
theorem typeOf_spec {s : Sp} : Spec Tryz.prog [] 119 [.agg (srow s)] (.int .i64 (arT s)):=by
 have v:=arity_spec (op:=s.op)
 unfold arT
 generalize arF s.op = z at v ⊢
 obtain ⟨ts,r,b⟩:=z
 refine spec_fn T_ok mixed_ok 0 Tryz.func119 fn_ok119 (by kernel_rfl) ?_
 first | refine Exists.intro _ (And.intro (v) ?_) | refine Hn_by (Exists.intro _ (And.intro (v) ?_))
 exact And.intro (Or.inr rfl) rfl
theorem branching_spec {s : Sp} : Spec Tryz.prog [] 82 [.agg (srow s)] (.bool (arB s)):=by
 have v:=arity_spec (op:=s.op)
 unfold arB
 generalize arF s.op = z at v ⊢
 obtain ⟨ts,r,b⟩:=z
 refine spec_fn T_ok mixed_ok 0 Tryz.func82 fn_ok82 (by kernel_rfl) ?_
 first | refine Exists.intro _ (And.intro (v) ?_) | refine Hn_by (Exists.intro _ (And.intro (v) ?_))
 exact And.intro (Or.inr rfl) rfl
theorem opT_spec {op : Int} : Spec Tryz.prog [] 149 [.int .i64 op] (.int .i64 (arF op).2.1):=by
 have v:=arity9_spec (op:=op)
 generalize arF op = z at v ⊢
 obtain ⟨ts,r,b⟩:=z
 refine spec_fn T_ok mixed_ok 0 Tryz.func149 fn_ok149 (by kernel_rfl) ?_
 first | refine Exists.intro _ (And.intro (v) ?_) | refine Hn_by (Exists.intro _ (And.intro (v) ?_))
 exact And.intro (Or.inr rfl) rfl
def accB (want is : Int) : Bool:=is == want || (want == 0 && (is == 2 || is == 3))
theorem accepts_spec {want is : Int} : Spec Tryz.prog [] 118 [.int .i64 want,.int .i64 is] (.bool (accB want is)):=by
 refine spec_fn T_ok mixed_ok 0 Tryz.func118 fn_ok118 (by kernel_rfl) ?_
 unfold accB
 refine grE (fun e => ?_) (fun n => ?_)
 ·subst e
  repeat (first | refine gT ?_ | refine gF ?_ | refine brT ?_ | refine brF ?_)
  refine And.intro (Or.inr rfl) (congrArg AV.bool ?_)
  simp
 rw [show (is == want) = false by simp [n]]
 repeat (first | refine gT ?_ | refine gF ?_ | refine brT ?_ | refine brF ?_)
 refine brE (fun e => ?_) (fun n0 => ?_)
 ·subst e
  repeat (first | refine gT ?_ | refine gF ?_ | refine brT ?_ | refine brF ?_)
  refine grE (fun e => ?_) (fun n2 => ?_)
  ·subst e
   repeat (first | refine gT ?_ | refine gF ?_ | refine brT ?_ | refine brF ?_)
   exact And.intro (Or.inr rfl) rfl
  ·repeat (first | refine gT ?_ | refine gF ?_ | refine brT ?_ | refine brF ?_)
   refine And.intro (Or.inr rfl) (congrArg AV.bool ?_)
   simp [n2]
 ·repeat (first | refine gT ?_ | refine gF ?_ | refine brT ?_ | refine brF ?_)
  refine And.intro (Or.inr rfl) (congrArg AV.bool ?_)
  simp [n0]
theorem fits_spec {want is : Int} (h : is ≠ 0) : Spec Tryz.prog [] 148 [.int .i64 is,.int .i64 want] (.bool (accB want is)):=by
 refine spec_fn T_ok mixed_ok 0 Tryz.func148 fn_ok148 (by kernel_rfl) ?_
 unfold accB
 refine brE (fun e => ?_) (fun n0 => ?_)
 ·subst e
  refine grE (fun e => ?_) (fun n2 => ?_)
  ·subst e
   repeat (first | refine gT ?_ | refine gF ?_ | refine brT ?_ | refine brF ?_)
   exact And.intro (Or.inr rfl) rfl
  ·repeat (first | refine gT ?_ | refine gF ?_ | refine brT ?_ | refine brF ?_)
   refine And.intro (Or.inr rfl) (congrArg AV.bool ?_)
   rw [beq_false_of_ne h,beq_false_of_ne n2]
   rfl
 ·refine And.intro (Or.inr rfl) (congrArg AV.bool ?_)
  simp [n0]
def zB (a : Bool) (l : List Int) (c : Bool) (m : List Int) : Bool:=!a && (!c && (l.length == 0 && m.length == 0))
theorem empty_spec {a c : Bool} {l m : List Int} : Spec Tryz.prog [] 120 [.agg [.bool a,lim l,.bool c,lim m]] (.bool (zB a l c m)):=by
 refine spec_fn T_ok mixed_ok 0 Tryz.func120 fn_ok120 (by kernel_rfl) ?_
 unfold zB
 cases a with
 | true =>
  repeat (first | refine gT ?_ | refine gF ?_ | refine brT ?_ | refine brF ?_)
  exact And.intro (Or.inr rfl) rfl
 | false =>
 cases c with
 | true =>
  repeat (first | refine gT ?_ | refine gF ?_ | refine brT ?_ | refine brF ?_)
  exact And.intro (Or.inr rfl) rfl
 | false =>
 cases l with
 | cons x l =>
  repeat (first | refine gT ?_ | refine gF ?_ | refine brT ?_ | refine brF ?_)
  exact And.intro (Or.inr rfl) rfl
 | nil =>
 repeat (first | refine gT ?_ | refine gF ?_ | refine brT ?_ | refine brF ?_)
 refine And.intro (Or.inr rfl) (congrArg AV.bool ?_)
 cases m <;> rfl
end Ab
end
section
open Go Go.Proofs
namespace Ab
set_option maxRecDepth 100000
set_option maxHeartbeats 1000000
theorem srow_len (l : List Sp) : (l.map srow).length = l.length:=by simp
theorem srow_at {l : List Sp} {i : Nat} {s : Sp} (h : l[i]? = some s) : (l.map srow)[((i : Int)).toNat]? = some (srow s):=by rw [Int.toNat_natCast]; simp [h]
def eqN (s o : Sp) : Bool:=o.nm.data.toList == s.nm.data.toList
theorem any_succ {α : Type} {f : α -> Bool} {l : List α} {i : Nat} {x : α} (h : l[i]? = some x) (h1 : (l.take i).any f = false) (h2 : f x = false) : (l.take (i + 1)).any f = false:=by
 rw [List.take_add_one,h]
 simp [h1,h2]
theorem any_true {α : Type} {f : α -> Bool} {l : List α} {i : Nat} {x : α} (h : l[i]? = some x) (h2 : f x = true) : l.any f = true:=by
 rw [List.any_eq_true]
 exact ⟨x,List.mem_of_getElem? h,h2⟩
theorem contains_in {pre : List Sp} {s : Sp} {tm : Nat -> AV} {hp : Nat -> Option Blk} {K : AV -> St -> Prop} (hl : (pre.length : Int) <= 9223372036854775807) (n : Nat) (h0 : hp 0 = some (.box (srow s)))
  (hK : ∀ hp',K (.bool (pre.any (eqN s))) ⟨tm,hp',1⟩) : Hn Tryz.prog T [] (n + 3) (.fn 121) [stpv pre,.fn 122 [.bp 0 0]] ⟨tm,hp,1⟩ K:=by
 refine Hn_in Tryz.f121 Tryz.func121 fn_ok121 (by kernel_rfl) ?_
 refine Hn_in Tryz.f159 Tryz.func159 fn_ok159 (by kernel_rfl) ?_
 refine aw_loopN 1 (fun i : Nat => stOf [(0,stpv pre),(1,.fn 122 [.bp 0 0]),(6,stpv pre),(7,.int .i64 (pre.length : Int)),(8,.int .i64 (i : Int))] [(0,.box (srow s))] 1) (fun i => i <= pre.length ∧ (pre.take i).any (eqN s) = false) (fun i => pre.length - i) 0 ⟨Nat.zero_le _,rfl⟩
  (.inl (le_by ⟨rfl,rfl,rfl,int_eq (by rw [srow_len]),rfl,trivial⟩ ⟨h0,trivial⟩ (Nat.le_refl _))) (by kernel_rfl) ?_
 rintro i ⟨hi,hall⟩ P hP
 refine br (fun g => ?_) (fun g => ?_)
 ·have g : i < pre.length:=by have : (i : Int) < (pre.length : Int):=g; omega
  obtain ⟨o,ho⟩:=get_of g
  refine And.intro (Int.natCast_nonneg i) (Exists.intro _ (And.intro (srow_at ho) ?_))
  refine Hn_cut Tryz.f122 Tryz.func122 fn_ok122 (by kernel_rfl) ?_
  refine And.intro (Or.inr rfl) (And.intro rfl (And.intro (cleanB_ok (by kernel_rfl)) ?_))
  refine brB (fun e => ?_) (fun e => ?_)
  ·refine And.intro (Or.inr rfl) ?_
   rw [any_true (f:=eqN s) ho e] at hK
   refine And.intro (Or.inr rfl) ?_
   have e2 : decide ((i : Int) ≥ 0) = true:=decide_eq_true (Int.natCast_nonneg i)
   rw [<- e2] at hK
   exact hK _
  ·refine hP (i + 1) _ ?_ ⟨g,any_succ ho hall e⟩ (by omega)
   refine .inl (le_by ⟨rfl,rfl,rfl,rfl,int_eq ?_,trivial⟩ ⟨rfl,trivial⟩ (Nat.le_refl _))
   exact w64_succ g hl
 ·have g : ¬ i < pre.length:=by have : ¬ (i : Int) < (pre.length : Int):=g; omega
  rw [List.take_of_length_le (by omega)] at hall
  refine And.intro (Or.inr rfl) ?_
  refine And.intro (Or.inr rfl) ?_
  rw [hall] at hK
  exact hK _
theorem contains_in2 {rows : List (List AV)} {pre : List Sp} {s : Sp} {tm : Nat -> AV} {hp : Nat -> Option Blk} {K : AV -> St -> Prop} (hr : rows = pre.map srow) (hl : (pre.length : Int) <= 9223372036854775807) (n : Nat) (h0 : hp 0 = some (.box (srow s)))
  (hK : ∀ hp',K (.bool (pre.any (eqN s))) ⟨tm,hp',1⟩) : Hn Tryz.prog T [] (n + 3) (.fn 121) [.sl rows,.fn 122 [.bp 0 0]] ⟨tm,hp,1⟩ K:=by
 subst hr
 exact contains_in hl n h0 hK
theorem srow_ok (l : List Sp) : RowsOk 12 (l.map srow):=fun r hr => by
 obtain ⟨x,_,rfl⟩:=List.mem_map.1 hr; rfl
theorem take_pre (pre : List Sp) (l : List Sp) {n : Int} (h : n = (pre.length : Int)) : (((pre ++ l).map srow).take n.toNat).drop 0 = pre.map srow:=by
 subst h
 rw [List.drop_zero,Int.toNat_natCast,List.map_append,List.take_append_of_le_length (by simp),List.take_of_length_le (by simp)]
end Ab
end
section
open Go Go.Proofs
namespace Ab
set_option maxRecDepth 100000
set_option maxHeartbeats 1000000
def emN (s : Sp) : Bool:=s.nm.data.toList == []
def argB (pre : List Sp) (p : Int × Int) : Bool:=decide (0 <= p.2) && (decide (p.2 < (pre.length : Int)) && accB p.1 (match pre[p.2.toNat]? with | some o => arT o | none => 0))
def argsB (pre : List Sp) (ts us : List Int) : Bool:=(ts.zip us).all (argB pre)
def brOk (b : Bool) (br : Int) : Bool:=if b = true then br == 1 || br == 2 else br == 0
noncomputable def xyB (s : Sp) : Bool:=if s.op = 1 then qB s.x && qB s.y else if s.op = 2 then qB s.x && zB s.ya s.yl s.yc s.ym else zB s.xa s.xl s.xc s.xm && zB s.ya s.yl s.yc s.ym
noncomputable def okB (pre : List Sp) (s : Sp) : Bool:=(arT s != 0) && ((s.ar.length == (arF s.op).1.length) && (!(emN s) && (argsB pre (arF s.op).1 s.ar && (brOk (arF s.op).2.2 s.br && (xyB s && !(pre.any (eqN s)))))))
theorem ok_f1 {pre : List Sp} {s : Sp} (h : arT s = 0) : okB pre s = false:=by unfold okB; simp [h]
theorem ok_f2 {pre : List Sp} {s : Sp} {z : List Int × Int × Bool} (hz : arF s.op = z) (h : s.ar.length ≠ z.1.length) : okB pre s = false:=by unfold okB; rw [hz]; simp [h]
theorem ok_f3 {pre : List Sp} {s : Sp} (h : emN s = true) : okB pre s = false:=by unfold okB; simp [h]
theorem ok_f4 {pre : List Sp} {s : Sp} {z : List Int × Int × Bool} (hz : arF s.op = z) (h : argsB pre z.1 s.ar = false) : okB pre s = false:=by unfold okB; rw [hz]; simp [h]
theorem ok_f5 {pre : List Sp} {s : Sp} {z : List Int × Int × Bool} (hz : arF s.op = z) (h : brOk z.2.2 s.br = false) : okB pre s = false:=by unfold okB; rw [hz]; simp [h]
theorem ok_f6 {pre : List Sp} {s : Sp} (h : xyB s = false) : okB pre s = false:=by unfold okB; simp [h]
theorem ok_t {pre : List Sp} {s : Sp} {z : List Int × Int × Bool} (hz : arF s.op = z) (h1 : z.2.1 ≠ 0) (h2 : s.ar.length = z.1.length) (h3 : emN s = false) (h4 : argsB pre z.1 s.ar = true) (h5 : brOk z.2.2 s.br = true) (h6 : xyB s = true) : okB pre s = !(pre.any (eqN s)):=by
 unfold okB arT
 rw [hz,h3,h4,h5,h6,h2]
 simp [h1]
theorem zip_at {ts us : List Int} {k : Nat} {t a : Int} (h1 : ts[k]? = some t) (h2 : us[k]? = some a) : (ts.zip us)[k]? = some (t,a):=by
 rw [List.getElem?_zip_eq_some]
 exact ⟨h1,h2⟩
theorem irow_at {l : List Int} {i : Nat} {x : Int} (h : l[i]? = some x) : (irows .i64 l)[((i : Int)).toNat]? = some [AV.int .i64 x]:=by rw [Int.toNat_natCast]; simp [irows,h]
def SpOk (s : Sp) : Prop:=QD s.x ∧ QD s.y ∧ (s.ar.length : Int) <= 9223372036854775807
theorem wellFormed_spec {pre : List Sp} {s : Sp} (hs : SpOk s) (hl : (pre.length : Int) < 9223372036854775807) : Spec Tryz.prog [] 81 [stpv (pre ++ [s])] (.bool (okB pre s)):=by
 have v:=arity_spec (op:=s.op)
 have hq1:=(qvalid_tot [] hs.1).1
 have hq2:=(qvalid_tot [] hs.2.1).1
 have hz1:=empty_spec (a:=s.xa) (l:=s.xl) (c:=s.xc) (m:=s.xm)
 have hz2:=empty_spec (a:=s.ya) (l:=s.yl) (c:=s.yc) (m:=s.ym)
 have hw : w64 ((((pre ++ [s]).map srow).length : Int) - 1) = (pre.length : Int):=by
  rw [srow_len,List.length_append,List.length_singleton,w64_eq (by omega)]; omega
 have hat : ((pre ++ [s]).map srow)[(w64 ((((pre ++ [s]).map srow).length : Int) - 1)).toNat]? = some (srow s):=by
  rw [hw]; exact srow_at (by simp)
 have hc : arF s.op = arF s.op:=rfl
 generalize hz : arF s.op = z at v
 obtain ⟨ts,r,b⟩:=z
 refine spec_fn T_ok mixed_ok 3 Tryz.func81 fn_ok81 (by kernel_rfl) ?_
 refine And.intro (show 0 <= w64 ((((pre ++ [s]).map srow).length : Int) - 1) by omega) (Exists.intro _ (And.intro hat ?_))
 first | refine Exists.intro _ (And.intro (v) ?_) | refine Hn_by (Exists.intro _ (And.intro (v) ?_))
 refine grE (fun e => ?_) (fun h1 => ?_)
 ·rw [ok_f1 (by unfold arT; rw [hz]; exact e)]
  repeat (first | refine gT ?_ | refine gF ?_ | refine brT ?_ | refine brF ?_)
  exact And.intro (Or.inr rfl) rfl
 repeat (first | refine gT ?_ | refine gF ?_ | refine brT ?_ | refine brF ?_)
 refine grN (fun e => ?_) (fun h2 => ?_)
 ·rw [ok_f2 hz (by simp only [irows_len] at e; intro e2; exact e (by rw [e2]))]
  repeat (first | refine gT ?_ | refine gF ?_ | refine brT ?_ | refine brF ?_)
  exact And.intro (Or.inr rfl) rfl
 repeat (first | refine gT ?_ | refine gF ?_ | refine brT ?_ | refine brF ?_)
 refine brB (fun e => ?_) (fun h3 => ?_)
 ·rw [ok_f3 (s:=s) e]
  exact And.intro (Or.inr rfl) rfl
 have h2 : ts.length = s.ar.length:=by simp only [irows_len] at h2; omega
 have hle : ((ts.zip s.ar).length : Int) = s.ar.length:=by rw [List.length_zip]; omega
 refine aw_loopN 1 (fun k : Nat => stOf [(0,stpv (pre ++ [s])),(3,.int .i64 (pre.length : Int)),(4,.bp 0 0),(5,lin ts),(7,.bool b),(42,lin s.ar),(43,.int .i64 (s.ar.length : Int)),(44,.int .i64 (k : Int))] [(0,.box (srow s))] 1) (fun k => k <= s.ar.length ∧ ((ts.zip s.ar).take k).all (argB pre) = true) (fun k => s.ar.length - k) 0 ⟨Nat.zero_le _,rfl⟩
  (.inl (le_by ⟨rfl,int_eq hw,rfl,rfl,rfl,rfl,int_eq (by rw [irows_len]),rfl,trivial⟩ ⟨rfl,trivial⟩ (Nat.le_refl _))) (by kernel_rfl) ?_
 rintro k ⟨hk,hall⟩ P hP
 refine br (fun g => ?_) (fun g => ?_)
 ·have g : k < s.ar.length:=by have : (k : Int) < (s.ar.length : Int):=g; omega
  obtain ⟨a,ha⟩:=get_of g
  obtain ⟨t,ht⟩:=get_of (l:=ts) (i:=k) (by omega)
  have hza:=zip_at ht ha
  refine And.intro (Int.natCast_nonneg k) (Exists.intro _ (And.intro (irow_at ha) ?_))
  refine And.intro (by kernel_rfl) ?_
  refine gr (fun e => ?_) (fun e1 => ?_)
  ·rw [ok_f4 (pre:=pre) hz (all_false hza (by unfold argB; rw [decide_eq_false (show ¬ 0 <= a by omega)]; rfl))]
   repeat (first | refine gT ?_ | refine gF ?_ | refine brT ?_ | refine brF ?_)
   exact And.intro (Or.inr rfl) rfl
  repeat (first | refine gT ?_ | refine gF ?_ | refine brT ?_ | refine brF ?_)
  refine gr (fun e => ?_) (fun e2 => ?_)
  ·rw [ok_f4 (pre:=pre) hz (all_false hza (by unfold argB; rw [decide_eq_false (show ¬ a < (pre.length : Int) by omega)]; simp))]
   repeat (first | refine gT ?_ | refine gF ?_ | refine brT ?_ | refine brF ?_)
   exact And.intro (Or.inr rfl) rfl
  repeat (first | refine gT ?_ | refine gF ?_ | refine brT ?_ | refine brF ?_)
  obtain ⟨o,ho⟩:=get_of (l:=pre) (i:=a.toNat) (by omega)
  have ho2 : ((pre ++ [s]).map srow)[a.toNat]? = some (srow o):=by
   rw [List.getElem?_map,List.getElem?_append_left (by omega),ho]; rfl
  have ht1:=typeOf_spec (s:=o)
  have ht2:=accepts_spec (want:=t) (is:=arT o)
  have hab : argB pre (t,a) = accB t (arT o):=by
   unfold argB
   rw [decide_eq_true (show 0 <= a by omega),decide_eq_true (show a < (pre.length : Int) by omega)]
   simp [ho]
  refine And.intro (Int.natCast_nonneg k) (Exists.intro _ (And.intro (irow_at ht) ?_))
  repeat (first | refine gT ?_ | refine gF ?_ | refine brT ?_ | refine brF ?_)
  refine And.intro (show 0 <= a by omega) (Exists.intro _ (And.intro ho2 ?_))
  repeat (first | refine gT ?_ | refine gF ?_ | refine brT ?_ | refine brF ?_)
  first | refine Exists.intro _ (And.intro (ht1) ?_) | refine Hn_by (Exists.intro _ (And.intro (ht1) ?_))
  repeat (first | refine gT ?_ | refine gF ?_ | refine brT ?_ | refine brF ?_)
  first | refine Exists.intro _ (And.intro (ht2) ?_) | refine Hn_by (Exists.intro _ (And.intro (ht2) ?_))
  repeat (first | refine gT ?_ | refine gF ?_ | refine brT ?_ | refine brF ?_)
  cases hb : accB t (arT o) with
  | false =>
   rw [ok_f4 (pre:=pre) hz (all_false hza (hab.trans hb))]
   repeat (first | refine gT ?_ | refine gF ?_ | refine brT ?_ | refine brF ?_)
   exact And.intro (Or.inr rfl) rfl
  | true =>
   repeat (first | refine gT ?_ | refine gF ?_ | refine brT ?_ | refine brF ?_)
   refine hP (k + 1) _ ?_ ⟨g,by rw [all_succ hza,hall,hab,hb]; rfl⟩ (by omega)
   refine .inl (le_by ⟨rfl,rfl,rfl,rfl,rfl,rfl,rfl,int_eq ?_,trivial⟩ ⟨rfl,trivial⟩ (Nat.le_refl _))
   exact w64_succ g hs.2.2
 have g : ¬ k < s.ar.length:=by have : ¬ (k : Int) < (s.ar.length : Int):=g; omega
 rw [List.take_of_length_le (by omega)] at hall
 cases h5 : brOk b s.br with
 | false =>
  rw [ok_f5 (pre:=pre) hz h5]
  cases b with
  | true =>
   have h5 : (s.br == 1 || s.br == 2) = false:=h5
   obtain ⟨n1,n2⟩:=Bool.or_eq_false_iff.1 h5
   refine grE (fun e => absurd e (ne_of_beq_false n1)) (fun _ => ?_)
   repeat (first | refine gT ?_ | refine gF ?_ | refine brT ?_ | refine brF ?_)
   refine And.intro (fun e => absurd e (by rw [n2]; decide)) (fun _ => ?_)
   repeat (first | refine gT ?_ | refine gF ?_ | refine brT ?_ | refine brF ?_)
   exact And.intro (Or.inr rfl) rfl
  | false =>
   have h5 : (s.br == 0) = false:=h5
   refine grE (fun e => ?_) (fun _ => ?_)
   ·repeat (first | refine gT ?_ | refine gF ?_ | refine brT ?_ | refine brF ?_)
    exact And.intro (Or.inr rfl) rfl
   repeat (first | refine gT ?_ | refine gF ?_ | refine brT ?_ | refine brF ?_)
   refine And.intro (fun _ => ?_) (fun _ => ?_)
   rotate_left
   ·repeat (first | refine gT ?_ | refine gF ?_ | refine brT ?_ | refine brF ?_)
    exact And.intro (Or.inr rfl) rfl
   repeat (first | refine gT ?_ | refine gF ?_ | refine brT ?_ | refine brF ?_)
   refine brN (fun _ => ?_) (fun e => absurd e (ne_of_beq_false h5))
   exact And.intro (Or.inr rfl) rfl
 | true =>
 have hfin : xyB s = true -> okB pre s = !(pre.any (eqN s)):=fun h6 => ok_t hz h1 h2.symm h3 hall h5 h6
 cases b with
 | true =>
  have h5 : (s.br == 1 || s.br == 2) = true:=h5
  refine grE (fun e => ?_) (fun n1 => ?_)
  ·repeat (first | refine gT ?_ | refine gF ?_ | refine brT ?_ | refine brF ?_)
   refine And.intro (by kernel_rfl) ?_
   refine grE (fun e1 => ?_) (fun n1 => ?_)
   ·have hb1 : (s.op == 1) = true:=by rw [e1]; rfl
    repeat (first | refine gT ?_ | refine gF ?_ | refine brT ?_ | refine brF ?_)
    cases hx : qB s.x with
    | false =>
     have h6 : xyB s = false:=by unfold xyB; rw [if_pos e1,hx]; rfl
     rw [hx] at hq1
     first | refine Exists.intro _ (And.intro (hq1) ?_) | refine Hn_by (Exists.intro _ (And.intro (hq1) ?_))
     rw [ok_f6 (pre:=pre) h6]
     repeat (first | refine gT ?_ | refine gF ?_ | refine brT ?_ | refine brF ?_)
     exact And.intro (Or.inr rfl) rfl
    | true =>
     rw [hx] at hq1
     first | refine Exists.intro _ (And.intro (hq1) ?_) | refine Hn_by (Exists.intro _ (And.intro (hq1) ?_))
     repeat (first | refine gT ?_ | refine gF ?_ | refine brT ?_ | refine brF ?_)
     refine And.intro (fun _ => ?_) (fun e => absurd (hb1.symm.trans e) (by decide))
     repeat (first | refine gT ?_ | refine gF ?_ | refine brT ?_ | refine brF ?_)
     cases hy : qB s.y with
     | false =>
      have h6 : xyB s = false:=by unfold xyB; rw [if_pos e1,hx,hy]; rfl
      rw [hy] at hq2
      first | refine Exists.intro _ (And.intro (hq2) ?_) | refine Hn_by (Exists.intro _ (And.intro (hq2) ?_))
      rw [ok_f6 (pre:=pre) h6]
      repeat (first | refine gT ?_ | refine gF ?_ | refine brT ?_ | refine brF ?_)
      exact And.intro (Or.inr rfl) rfl
     | true =>
      have h6 : xyB s = true:=by unfold xyB; rw [if_pos e1,hx,hy]; rfl
      rw [hy] at hq2
      first | refine Exists.intro _ (And.intro (hq2) ?_) | refine Hn_by (Exists.intro _ (And.intro (hq2) ?_))
      repeat (first | refine gT ?_ | refine gF ?_ | refine brT ?_ | refine brF ?_)
      refine And.intro (fun e => absurd e (by rw [hb1]; decide)) (fun _ => ?_)
      rw [hfin h6]
      repeat (first | refine gT ?_ | refine gF ?_ | refine brT ?_ | refine brF ?_)
      refine And.intro (show (0 : Int) <= (pre.length : Int) by omega) (And.intro (show (pre.length : Int) <= (((pre ++ [s]).map srow).length : Int) by rw [srow_len,List.length_append]; omega) (And.intro (srow_ok _) ?_))
      refine contains_in2 (take_pre pre [s] rfl) (by omega) 0 rfl (fun hp' => ?_)
      exact And.intro (Or.inr rfl) rfl
   ·have hb1 : (s.op == 1) = false:=by simp [n1]
    repeat (first | refine gT ?_ | refine gF ?_ | refine brT ?_ | refine brF ?_)
    by_cases e2 : s.op = 2
    ·have hb2 : (s.op == 2) = true:=by rw [e2]; rfl
     refine And.intro (fun _ => ?_) (fun e => absurd (hb2.symm.trans e) (by decide))
     repeat (first | refine gT ?_ | refine gF ?_ | refine brT ?_ | refine brF ?_)
     cases hx : qB s.x with
     | false =>
      have h6 : xyB s = false:=by unfold xyB; rw [if_neg n1,if_pos e2,hx]; rfl
      rw [hx] at hq1
      first | refine Exists.intro _ (And.intro (hq1) ?_) | refine Hn_by (Exists.intro _ (And.intro (hq1) ?_))
      rw [ok_f6 (pre:=pre) h6]
      repeat (first | refine gT ?_ | refine gF ?_ | refine brT ?_ | refine brF ?_)
      exact And.intro (Or.inr rfl) rfl
     | true =>
      rw [hx] at hq1
      first | refine Exists.intro _ (And.intro (hq1) ?_) | refine Hn_by (Exists.intro _ (And.intro (hq1) ?_))
      repeat (first | refine gT ?_ | refine gF ?_ | refine brT ?_ | refine brF ?_)
      refine And.intro (fun e => absurd e (by rw [hb2]; decide)) (fun _ => ?_)
      repeat (first | refine gT ?_ | refine gF ?_ | refine brT ?_ | refine brF ?_)
      refine And.intro (fun e => absurd (hb1.symm.trans e) (by decide)) (fun _ => ?_)
      repeat (first | refine gT ?_ | refine gF ?_ | refine brT ?_ | refine brF ?_)
      refine And.intro (fun _ => ?_) (fun e => absurd e (by rw [hb1]; decide))
      repeat (first | refine gT ?_ | refine gF ?_ | refine brT ?_ | refine brF ?_)
      cases hy : zB s.ya s.yl s.yc s.ym with
      | false =>
           have h6 : xyB s = false:=by unfold xyB; rw [if_neg n1,if_pos e2,hx,hy]; rfl
           rw [hy] at hz2
           first | refine Exists.intro _ (And.intro (hz2) ?_) | refine Hn_by (Exists.intro _ (And.intro (hz2) ?_))
           rw [ok_f6 (pre:=pre) h6]
           repeat (first | refine gT ?_ | refine gF ?_ | refine brT ?_ | refine brF ?_)
           exact And.intro (Or.inr rfl) rfl
      | true =>
           have h6 : xyB s = true:=by unfold xyB; rw [if_neg n1,if_pos e2,hx,hy]; rfl
           rw [hy] at hz2
           first | refine Exists.intro _ (And.intro (hz2) ?_) | refine Hn_by (Exists.intro _ (And.intro (hz2) ?_))
           rw [hfin h6]
           repeat (first | refine gT ?_ | refine gF ?_ | refine brT ?_ | refine brF ?_)
           refine And.intro (show (0 : Int) <= (pre.length : Int) by omega) (And.intro (show (pre.length : Int) <= (((pre ++ [s]).map srow).length : Int) by rw [srow_len,List.length_append]; omega) (And.intro (srow_ok _) ?_))
           refine contains_in2 (take_pre pre [s] rfl) (by omega) 0 rfl (fun hp' => ?_)
           exact And.intro (Or.inr rfl) rfl
    ·have hb2 : (s.op == 2) = false:=by simp [e2]
     refine And.intro (fun e => absurd (hb2.symm.trans e) (by decide)) (fun _ => ?_)
     repeat (first | refine gT ?_ | refine gF ?_ | refine brT ?_ | refine brF ?_)
     refine And.intro (fun _ => ?_) (fun e => absurd e (by rw [hb2]; decide))
     repeat (first | refine gT ?_ | refine gF ?_ | refine brT ?_ | refine brF ?_)
     cases hx : zB s.xa s.xl s.xc s.xm with
     | false =>
      have h6 : xyB s = false:=by unfold xyB; rw [if_neg n1,if_neg e2,hx]; rfl
      rw [hx] at hz1
      first | refine Exists.intro _ (And.intro (hz1) ?_) | refine Hn_by (Exists.intro _ (And.intro (hz1) ?_))
      rw [ok_f6 (pre:=pre) h6]
      repeat (first | refine gT ?_ | refine gF ?_ | refine brT ?_ | refine brF ?_)
      exact And.intro (Or.inr rfl) rfl
     | true =>
      rw [hx] at hz1
      first | refine Exists.intro _ (And.intro (hz1) ?_) | refine Hn_by (Exists.intro _ (And.intro (hz1) ?_))
      repeat (first | refine gT ?_ | refine gF ?_ | refine brT ?_ | refine brF ?_)
      refine And.intro (fun e => absurd (hb1.symm.trans e) (by decide)) (fun _ => ?_)
      repeat (first | refine gT ?_ | refine gF ?_ | refine brT ?_ | refine brF ?_)
      refine And.intro (fun _ => ?_) (fun e => absurd e (by rw [hb1]; decide))
      repeat (first | refine gT ?_ | refine gF ?_ | refine brT ?_ | refine brF ?_)
      cases hy : zB s.ya s.yl s.yc s.ym with
      | false =>
           have h6 : xyB s = false:=by unfold xyB; rw [if_neg n1,if_neg e2,hx,hy]; rfl
           rw [hy] at hz2
           first | refine Exists.intro _ (And.intro (hz2) ?_) | refine Hn_by (Exists.intro _ (And.intro (hz2) ?_))
           rw [ok_f6 (pre:=pre) h6]
           repeat (first | refine gT ?_ | refine gF ?_ | refine brT ?_ | refine brF ?_)
           exact And.intro (Or.inr rfl) rfl
      | true =>
           have h6 : xyB s = true:=by unfold xyB; rw [if_neg n1,if_neg e2,hx,hy]; rfl
           rw [hy] at hz2
           first | refine Exists.intro _ (And.intro (hz2) ?_) | refine Hn_by (Exists.intro _ (And.intro (hz2) ?_))
           rw [hfin h6]
           repeat (first | refine gT ?_ | refine gF ?_ | refine brT ?_ | refine brF ?_)
           refine And.intro (show (0 : Int) <= (pre.length : Int) by omega) (And.intro (show (pre.length : Int) <= (((pre ++ [s]).map srow).length : Int) by rw [srow_len,List.length_append]; omega) (And.intro (srow_ok _) ?_))
           refine contains_in2 (take_pre pre [s] rfl) (by omega) 0 rfl (fun hp' => ?_)
           exact And.intro (Or.inr rfl) rfl
  ·repeat (first | refine gT ?_ | refine gF ?_ | refine brT ?_ | refine brF ?_)
   have n2 : (s.br == 2) = true:=by
    rw [beq_false_of_ne n1] at h5
    exact h5
   refine And.intro (fun _ => ?_) (fun e => absurd e (by rw [n2]; decide))
   repeat (first | refine gT ?_ | refine gF ?_ | refine brT ?_ | refine brF ?_)
   refine And.intro (by kernel_rfl) ?_
   refine grE (fun e1 => ?_) (fun n1 => ?_)
   ·have hb1 : (s.op == 1) = true:=by rw [e1]; rfl
    repeat (first | refine gT ?_ | refine gF ?_ | refine brT ?_ | refine brF ?_)
    cases hx : qB s.x with
    | false =>
     have h6 : xyB s = false:=by unfold xyB; rw [if_pos e1,hx]; rfl
     rw [hx] at hq1
     first | refine Exists.intro _ (And.intro (hq1) ?_) | refine Hn_by (Exists.intro _ (And.intro (hq1) ?_))
     rw [ok_f6 (pre:=pre) h6]
     repeat (first | refine gT ?_ | refine gF ?_ | refine brT ?_ | refine brF ?_)
     exact And.intro (Or.inr rfl) rfl
    | true =>
     rw [hx] at hq1
     first | refine Exists.intro _ (And.intro (hq1) ?_) | refine Hn_by (Exists.intro _ (And.intro (hq1) ?_))
     repeat (first | refine gT ?_ | refine gF ?_ | refine brT ?_ | refine brF ?_)
     refine And.intro (fun _ => ?_) (fun e => absurd (hb1.symm.trans e) (by decide))
     repeat (first | refine gT ?_ | refine gF ?_ | refine brT ?_ | refine brF ?_)
     cases hy : qB s.y with
     | false =>
      have h6 : xyB s = false:=by unfold xyB; rw [if_pos e1,hx,hy]; rfl
      rw [hy] at hq2
      first | refine Exists.intro _ (And.intro (hq2) ?_) | refine Hn_by (Exists.intro _ (And.intro (hq2) ?_))
      rw [ok_f6 (pre:=pre) h6]
      repeat (first | refine gT ?_ | refine gF ?_ | refine brT ?_ | refine brF ?_)
      exact And.intro (Or.inr rfl) rfl
     | true =>
      have h6 : xyB s = true:=by unfold xyB; rw [if_pos e1,hx,hy]; rfl
      rw [hy] at hq2
      first | refine Exists.intro _ (And.intro (hq2) ?_) | refine Hn_by (Exists.intro _ (And.intro (hq2) ?_))
      repeat (first | refine gT ?_ | refine gF ?_ | refine brT ?_ | refine brF ?_)
      refine And.intro (fun e => absurd e (by rw [hb1]; decide)) (fun _ => ?_)
      rw [hfin h6]
      repeat (first | refine gT ?_ | refine gF ?_ | refine brT ?_ | refine brF ?_)
      refine And.intro (show (0 : Int) <= (pre.length : Int) by omega) (And.intro (show (pre.length : Int) <= (((pre ++ [s]).map srow).length : Int) by rw [srow_len,List.length_append]; omega) (And.intro (srow_ok _) ?_))
      refine contains_in2 (take_pre pre [s] rfl) (by omega) 0 rfl (fun hp' => ?_)
      exact And.intro (Or.inr rfl) rfl
   ·have hb1 : (s.op == 1) = false:=by simp [n1]
    repeat (first | refine gT ?_ | refine gF ?_ | refine brT ?_ | refine brF ?_)
    by_cases e2 : s.op = 2
    ·have hb2 : (s.op == 2) = true:=by rw [e2]; rfl
     refine And.intro (fun _ => ?_) (fun e => absurd (hb2.symm.trans e) (by decide))
     repeat (first | refine gT ?_ | refine gF ?_ | refine brT ?_ | refine brF ?_)
     cases hx : qB s.x with
     | false =>
      have h6 : xyB s = false:=by unfold xyB; rw [if_neg n1,if_pos e2,hx]; rfl
      rw [hx] at hq1
      first | refine Exists.intro _ (And.intro (hq1) ?_) | refine Hn_by (Exists.intro _ (And.intro (hq1) ?_))
      rw [ok_f6 (pre:=pre) h6]
      repeat (first | refine gT ?_ | refine gF ?_ | refine brT ?_ | refine brF ?_)
      exact And.intro (Or.inr rfl) rfl
     | true =>
      rw [hx] at hq1
      first | refine Exists.intro _ (And.intro (hq1) ?_) | refine Hn_by (Exists.intro _ (And.intro (hq1) ?_))
      repeat (first | refine gT ?_ | refine gF ?_ | refine brT ?_ | refine brF ?_)
      refine And.intro (fun e => absurd e (by rw [hb2]; decide)) (fun _ => ?_)
      repeat (first | refine gT ?_ | refine gF ?_ | refine brT ?_ | refine brF ?_)
      refine And.intro (fun e => absurd (hb1.symm.trans e) (by decide)) (fun _ => ?_)
      repeat (first | refine gT ?_ | refine gF ?_ | refine brT ?_ | refine brF ?_)
      refine And.intro (fun _ => ?_) (fun e => absurd e (by rw [hb1]; decide))
      repeat (first | refine gT ?_ | refine gF ?_ | refine brT ?_ | refine brF ?_)
      cases hy : zB s.ya s.yl s.yc s.ym with
      | false =>
           have h6 : xyB s = false:=by unfold xyB; rw [if_neg n1,if_pos e2,hx,hy]; rfl
           rw [hy] at hz2
           first | refine Exists.intro _ (And.intro (hz2) ?_) | refine Hn_by (Exists.intro _ (And.intro (hz2) ?_))
           rw [ok_f6 (pre:=pre) h6]
           repeat (first | refine gT ?_ | refine gF ?_ | refine brT ?_ | refine brF ?_)
           exact And.intro (Or.inr rfl) rfl
      | true =>
           have h6 : xyB s = true:=by unfold xyB; rw [if_neg n1,if_pos e2,hx,hy]; rfl
           rw [hy] at hz2
           first | refine Exists.intro _ (And.intro (hz2) ?_) | refine Hn_by (Exists.intro _ (And.intro (hz2) ?_))
           rw [hfin h6]
           repeat (first | refine gT ?_ | refine gF ?_ | refine brT ?_ | refine brF ?_)
           refine And.intro (show (0 : Int) <= (pre.length : Int) by omega) (And.intro (show (pre.length : Int) <= (((pre ++ [s]).map srow).length : Int) by rw [srow_len,List.length_append]; omega) (And.intro (srow_ok _) ?_))
           refine contains_in2 (take_pre pre [s] rfl) (by omega) 0 rfl (fun hp' => ?_)
           exact And.intro (Or.inr rfl) rfl
    ·have hb2 : (s.op == 2) = false:=by simp [e2]
     refine And.intro (fun e => absurd (hb2.symm.trans e) (by decide)) (fun _ => ?_)
     repeat (first | refine gT ?_ | refine gF ?_ | refine brT ?_ | refine brF ?_)
     refine And.intro (fun _ => ?_) (fun e => absurd e (by rw [hb2]; decide))
     repeat (first | refine gT ?_ | refine gF ?_ | refine brT ?_ | refine brF ?_)
     cases hx : zB s.xa s.xl s.xc s.xm with
     | false =>
      have h6 : xyB s = false:=by unfold xyB; rw [if_neg n1,if_neg e2,hx]; rfl
      rw [hx] at hz1
      first | refine Exists.intro _ (And.intro (hz1) ?_) | refine Hn_by (Exists.intro _ (And.intro (hz1) ?_))
      rw [ok_f6 (pre:=pre) h6]
      repeat (first | refine gT ?_ | refine gF ?_ | refine brT ?_ | refine brF ?_)
      exact And.intro (Or.inr rfl) rfl
     | true =>
      rw [hx] at hz1
      first | refine Exists.intro _ (And.intro (hz1) ?_) | refine Hn_by (Exists.intro _ (And.intro (hz1) ?_))
      repeat (first | refine gT ?_ | refine gF ?_ | refine brT ?_ | refine brF ?_)
      refine And.intro (fun e => absurd (hb1.symm.trans e) (by decide)) (fun _ => ?_)
      repeat (first | refine gT ?_ | refine gF ?_ | refine brT ?_ | refine brF ?_)
      refine And.intro (fun _ => ?_) (fun e => absurd e (by rw [hb1]; decide))
      repeat (first | refine gT ?_ | refine gF ?_ | refine brT ?_ | refine brF ?_)
      cases hy : zB s.ya s.yl s.yc s.ym with
      | false =>
           have h6 : xyB s = false:=by unfold xyB; rw [if_neg n1,if_neg e2,hx,hy]; rfl
           rw [hy] at hz2
           first | refine Exists.intro _ (And.intro (hz2) ?_) | refine Hn_by (Exists.intro _ (And.intro (hz2) ?_))
           rw [ok_f6 (pre:=pre) h6]
           repeat (first | refine gT ?_ | refine gF ?_ | refine brT ?_ | refine brF ?_)
           exact And.intro (Or.inr rfl) rfl
      | true =>
           have h6 : xyB s = true:=by unfold xyB; rw [if_neg n1,if_neg e2,hx,hy]; rfl
           rw [hy] at hz2
           first | refine Exists.intro _ (And.intro (hz2) ?_) | refine Hn_by (Exists.intro _ (And.intro (hz2) ?_))
           rw [hfin h6]
           repeat (first | refine gT ?_ | refine gF ?_ | refine brT ?_ | refine brF ?_)
           refine And.intro (show (0 : Int) <= (pre.length : Int) by omega) (And.intro (show (pre.length : Int) <= (((pre ++ [s]).map srow).length : Int) by rw [srow_len,List.length_append]; omega) (And.intro (srow_ok _) ?_))
           refine contains_in2 (take_pre pre [s] rfl) (by omega) 0 rfl (fun hp' => ?_)
           exact And.intro (Or.inr rfl) rfl
 | false =>
  have h5 : (s.br == 0) = true:=h5
  have n0 : s.br = 0:=eq_of_beq h5
  refine grE (fun e => absurd e (by omega)) (fun n1 => ?_)
  repeat (first | refine gT ?_ | refine gF ?_ | refine brT ?_ | refine brF ?_)
  refine And.intro (fun _ => ?_) (fun e => absurd e (by rw [n0]; decide))
  repeat (first | refine gT ?_ | refine gF ?_ | refine brT ?_ | refine brF ?_)
  refine brN (fun e => absurd n0 e) (fun _ => ?_)
  refine And.intro (by kernel_rfl) ?_
  refine grE (fun e1 => ?_) (fun n1 => ?_)
  ·have hb1 : (s.op == 1) = true:=by rw [e1]; rfl
   repeat (first | refine gT ?_ | refine gF ?_ | refine brT ?_ | refine brF ?_)
   cases hx : qB s.x with
   | false =>
    have h6 : xyB s = false:=by unfold xyB; rw [if_pos e1,hx]; rfl
    rw [hx] at hq1
    first | refine Exists.intro _ (And.intro (hq1) ?_) | refine Hn_by (Exists.intro _ (And.intro (hq1) ?_))
    rw [ok_f6 (pre:=pre) h6]
    repeat (first | refine gT ?_ | refine gF ?_ | refine brT ?_ | refine brF ?_)
    exact And.intro (Or.inr rfl) rfl
   | true =>
    rw [hx] at hq1
    first | refine Exists.intro _ (And.intro (hq1) ?_) | refine Hn_by (Exists.intro _ (And.intro (hq1) ?_))
    repeat (first | refine gT ?_ | refine gF ?_ | refine brT ?_ | refine brF ?_)
    refine And.intro (fun _ => ?_) (fun e => absurd (hb1.symm.trans e) (by decide))
    repeat (first | refine gT ?_ | refine gF ?_ | refine brT ?_ | refine brF ?_)
    cases hy : qB s.y with
    | false =>
     have h6 : xyB s = false:=by unfold xyB; rw [if_pos e1,hx,hy]; rfl
     rw [hy] at hq2
     first | refine Exists.intro _ (And.intro (hq2) ?_) | refine Hn_by (Exists.intro _ (And.intro (hq2) ?_))
     rw [ok_f6 (pre:=pre) h6]
     repeat (first | refine gT ?_ | refine gF ?_ | refine brT ?_ | refine brF ?_)
     exact And.intro (Or.inr rfl) rfl
    | true =>
     have h6 : xyB s = true:=by unfold xyB; rw [if_pos e1,hx,hy]; rfl
     rw [hy] at hq2
     first | refine Exists.intro _ (And.intro (hq2) ?_) | refine Hn_by (Exists.intro _ (And.intro (hq2) ?_))
     repeat (first | refine gT ?_ | refine gF ?_ | refine brT ?_ | refine brF ?_)
     refine And.intro (fun e => absurd e (by rw [hb1]; decide)) (fun _ => ?_)
     rw [hfin h6]
     repeat (first | refine gT ?_ | refine gF ?_ | refine brT ?_ | refine brF ?_)
     refine And.intro (show (0 : Int) <= (pre.length : Int) by omega) (And.intro (show (pre.length : Int) <= (((pre ++ [s]).map srow).length : Int) by rw [srow_len,List.length_append]; omega) (And.intro (srow_ok _) ?_))
     refine contains_in2 (take_pre pre [s] rfl) (by omega) 0 rfl (fun hp' => ?_)
     exact And.intro (Or.inr rfl) rfl
  ·have hb1 : (s.op == 1) = false:=by simp [n1]
   repeat (first | refine gT ?_ | refine gF ?_ | refine brT ?_ | refine brF ?_)
   by_cases e2 : s.op = 2
   ·have hb2 : (s.op == 2) = true:=by rw [e2]; rfl
    refine And.intro (fun _ => ?_) (fun e => absurd (hb2.symm.trans e) (by decide))
    repeat (first | refine gT ?_ | refine gF ?_ | refine brT ?_ | refine brF ?_)
    cases hx : qB s.x with
    | false =>
     have h6 : xyB s = false:=by unfold xyB; rw [if_neg n1,if_pos e2,hx]; rfl
     rw [hx] at hq1
     first | refine Exists.intro _ (And.intro (hq1) ?_) | refine Hn_by (Exists.intro _ (And.intro (hq1) ?_))
     rw [ok_f6 (pre:=pre) h6]
     repeat (first | refine gT ?_ | refine gF ?_ | refine brT ?_ | refine brF ?_)
     exact And.intro (Or.inr rfl) rfl
    | true =>
     rw [hx] at hq1
     first | refine Exists.intro _ (And.intro (hq1) ?_) | refine Hn_by (Exists.intro _ (And.intro (hq1) ?_))
     repeat (first | refine gT ?_ | refine gF ?_ | refine brT ?_ | refine brF ?_)
     refine And.intro (fun e => absurd e (by rw [hb2]; decide)) (fun _ => ?_)
     repeat (first | refine gT ?_ | refine gF ?_ | refine brT ?_ | refine brF ?_)
     refine And.intro (fun e => absurd (hb1.symm.trans e) (by decide)) (fun _ => ?_)
     repeat (first | refine gT ?_ | refine gF ?_ | refine brT ?_ | refine brF ?_)
     refine And.intro (fun _ => ?_) (fun e => absurd e (by rw [hb1]; decide))
     repeat (first | refine gT ?_ | refine gF ?_ | refine brT ?_ | refine brF ?_)
     cases hy : zB s.ya s.yl s.yc s.ym with
     | false =>
      have h6 : xyB s = false:=by unfold xyB; rw [if_neg n1,if_pos e2,hx,hy]; rfl
      rw [hy] at hz2
      first | refine Exists.intro _ (And.intro (hz2) ?_) | refine Hn_by (Exists.intro _ (And.intro (hz2) ?_))
      rw [ok_f6 (pre:=pre) h6]
      repeat (first | refine gT ?_ | refine gF ?_ | refine brT ?_ | refine brF ?_)
      exact And.intro (Or.inr rfl) rfl
     | true =>
      have h6 : xyB s = true:=by unfold xyB; rw [if_neg n1,if_pos e2,hx,hy]; rfl
      rw [hy] at hz2
      first | refine Exists.intro _ (And.intro (hz2) ?_) | refine Hn_by (Exists.intro _ (And.intro (hz2) ?_))
      rw [hfin h6]
      repeat (first | refine gT ?_ | refine gF ?_ | refine brT ?_ | refine brF ?_)
      refine And.intro (show (0 : Int) <= (pre.length : Int) by omega) (And.intro (show (pre.length : Int) <= (((pre ++ [s]).map srow).length : Int) by rw [srow_len,List.length_append]; omega) (And.intro (srow_ok _) ?_))
      refine contains_in2 (take_pre pre [s] rfl) (by omega) 0 rfl (fun hp' => ?_)
      exact And.intro (Or.inr rfl) rfl
   ·have hb2 : (s.op == 2) = false:=by simp [e2]
    refine And.intro (fun e => absurd (hb2.symm.trans e) (by decide)) (fun _ => ?_)
    repeat (first | refine gT ?_ | refine gF ?_ | refine brT ?_ | refine brF ?_)
    refine And.intro (fun _ => ?_) (fun e => absurd e (by rw [hb2]; decide))
    repeat (first | refine gT ?_ | refine gF ?_ | refine brT ?_ | refine brF ?_)
    cases hx : zB s.xa s.xl s.xc s.xm with
    | false =>
     have h6 : xyB s = false:=by unfold xyB; rw [if_neg n1,if_neg e2,hx]; rfl
     rw [hx] at hz1
     first | refine Exists.intro _ (And.intro (hz1) ?_) | refine Hn_by (Exists.intro _ (And.intro (hz1) ?_))
     rw [ok_f6 (pre:=pre) h6]
     repeat (first | refine gT ?_ | refine gF ?_ | refine brT ?_ | refine brF ?_)
     exact And.intro (Or.inr rfl) rfl
    | true =>
     rw [hx] at hz1
     first | refine Exists.intro _ (And.intro (hz1) ?_) | refine Hn_by (Exists.intro _ (And.intro (hz1) ?_))
     repeat (first | refine gT ?_ | refine gF ?_ | refine brT ?_ | refine brF ?_)
     refine And.intro (fun e => absurd (hb1.symm.trans e) (by decide)) (fun _ => ?_)
     repeat (first | refine gT ?_ | refine gF ?_ | refine brT ?_ | refine brF ?_)
     refine And.intro (fun _ => ?_) (fun e => absurd e (by rw [hb1]; decide))
     repeat (first | refine gT ?_ | refine gF ?_ | refine brT ?_ | refine brF ?_)
     cases hy : zB s.ya s.yl s.yc s.ym with
     | false =>
      have h6 : xyB s = false:=by unfold xyB; rw [if_neg n1,if_neg e2,hx,hy]; rfl
      rw [hy] at hz2
      first | refine Exists.intro _ (And.intro (hz2) ?_) | refine Hn_by (Exists.intro _ (And.intro (hz2) ?_))
      rw [ok_f6 (pre:=pre) h6]
      repeat (first | refine gT ?_ | refine gF ?_ | refine brT ?_ | refine brF ?_)
      exact And.intro (Or.inr rfl) rfl
     | true =>
      have h6 : xyB s = true:=by unfold xyB; rw [if_neg n1,if_neg e2,hx,hy]; rfl
      rw [hy] at hz2
      first | refine Exists.intro _ (And.intro (hz2) ?_) | refine Hn_by (Exists.intro _ (And.intro (hz2) ?_))
      rw [hfin h6]
      repeat (first | refine gT ?_ | refine gF ?_ | refine brT ?_ | refine brF ?_)
      refine And.intro (show (0 : Int) <= (pre.length : Int) by omega) (And.intro (show (pre.length : Int) <= (((pre ++ [s]).map srow).length : Int) by rw [srow_len,List.length_append]; omega) (And.intro (srow_ok _) ?_))
      refine contains_in2 (take_pre pre [s] rfl) (by omega) 0 rfl (fun hp' => ?_)
      exact And.intro (Or.inr rfl) rfl
end Ab
end
section
open Go Go.Proofs
namespace Ab
set_option maxRecDepth 100000
set_option maxHeartbeats 1000000
theorem sameI0_spec {a : Bool} {l : List Int} : Spec Tryz.prog [] 177 [.agg [.bool a,lim l],.agg [.bool false,.sl []]] (.bool (!a && l.length == 0)):=by
 cases a with
 | true =>
  refine spec_fn T_ok mixed_ok 0 Tryz.func177 fn_ok177 (by kernel_rfl) ?_
  repeat (first | refine gT ?_ | refine gF ?_ | refine brT ?_ | refine brF ?_)
  exact And.intro (Or.inr rfl) rfl
 | false =>
 cases l with
 | cons x l =>
  refine spec_fn T_ok mixed_ok 0 Tryz.func177 fn_ok177 (by kernel_rfl) ?_
  repeat (first | refine gT ?_ | refine gF ?_ | refine brT ?_ | refine brF ?_)
  exact And.intro (Or.inr rfl) rfl
 | nil =>
  refine spec_fn T_ok mixed_ok 0 Tryz.func177 fn_ok177 (by kernel_rfl) ?_
  repeat (first | refine gT ?_ | refine gF ?_ | refine brT ?_ | refine brF ?_)
  refine aw_loop (fun _ : Nat => stOf [(2,.bp 0 0),(5,.int .i64 0)] [(0,.box [.bool false,lim []])] 2) (fun _ => True) (fun _ => 0) 0 trivial
   (le_by ⟨rfl,rfl,trivial⟩ ⟨rfl,trivial⟩ (Nat.le_refl _)) ?_
  intro _ _ P hP
  refine br (fun g => absurd g (by decide)) (fun _ => ?_)
  exact And.intro (Or.inr rfl) rfl
theorem none_spec {a c : Bool} {l m : List Int} : Spec Tryz.prog [] 150 [.agg [.bool a,lim l,.bool c,lim m]] (.bool (zB a l c m)):=by
 have s1:=sameI0_spec (a:=a) (l:=l)
 have s2:=sameI0_spec (a:=c) (l:=m)
 have s3 : Spec Tryz.prog [] 173 [.agg [.bool a,lim l,.bool c,lim m],.agg [.bool false,.sl [],.bool false,.sl []]] (.bool (zB a l c m)):=by
  have e : zB a l c m = ((!a && l.length == 0) && (!c && m.length == 0)):=by
   unfold zB
   cases a <;> cases c <;> cases l <;> rfl
  rw [e]
  generalize (!a && l.length == 0) = p at s1 ⊢
  generalize (!c && m.length == 0) = q at s2 ⊢
  refine spec_fn T_ok mixed_ok 0 Tryz.func173 fn_ok173 (by kernel_rfl) ?_
  first | refine Exists.intro _ (And.intro (s1) ?_) | refine Hn_by (Exists.intro _ (And.intro (s1) ?_))
  first | refine Exists.intro _ (And.intro (s2) ?_) | refine Hn_by (Exists.intro _ (And.intro (s2) ?_))
  cases p with
  | false =>
   repeat (first | refine gT ?_ | refine gF ?_ | refine brT ?_ | refine brF ?_)
   exact And.intro (Or.inr rfl) rfl
  | true =>
   repeat (first | refine gT ?_ | refine gF ?_ | refine brT ?_ | refine brF ?_)
   exact And.intro (Or.inr rfl) rfl
 refine spec_fn T_ok mixed_ok 0 Tryz.func150 fn_ok150 (by kernel_rfl) ?_
 first | refine Exists.intro _ (And.intro (s3) ?_) | refine Hn_by (Exists.intro _ (And.intro (s3) ?_))
 exact And.intro (Or.inr rfl) rfl
end Ab
end
section
open Go Go.Proofs
namespace Ab
set_option maxRecDepth 100000
set_option maxHeartbeats 1000000
theorem ok_f7 {pre : List Sp} {s : Sp} (h : pre.any (eqN s) = true) : okB pre s = false:=by unfold okB; simp [h]
theorem right_spec {pre post : List Sp} {s : Sp} (hs : SpOk s) (hl : ((pre ++ s :: post).length : Int) <= 9223372036854775807) (hp : ∀ o ∈ pre,arT o ≠ 0) : Spec Tryz.prog [] 109 [stpv (pre ++ s :: post),.int .i64 (pre.length : Int)] (.bool (okB pre s)):=by
 have v:=arity9_spec (op:=s.op)
 have hq1:=(qvalid_tot [] hs.1).2
 have hq2:=(qvalid_tot [] hs.2.1).2
 have hz1:=none_spec (a:=s.xa) (l:=s.xl) (c:=s.xc) (m:=s.xm)
 have hz2:=none_spec (a:=s.ya) (l:=s.yl) (c:=s.yc) (m:=s.ym)
 have hlen : ((pre ++ s :: post).length : Int) = (pre.length : Int) + 1 + (post.length : Int):=by simp; omega
 have hat : ((pre ++ s :: post).map srow)[((pre.length : Int)).toNat]? = some (srow s):=srow_at (by simp)
 have hin:=ar_in (op:=s.op)
 have hrest:=@ar_of s.op
 generalize hz : arF s.op = z at v hin hrest
 obtain ⟨ts,r,b⟩:=z
 refine spec_fn T_ok mixed_ok 0 Tryz.func109 fn_ok109 (by kernel_rfl) ?_
 refine And.intro (Int.natCast_nonneg _) (Exists.intro _ (And.intro hat ?_))
 first | refine Exists.intro _ (And.intro (v) ?_) | refine Hn_by (Exists.intro _ (And.intro (v) ?_))
 refine gr (fun e => ?_) (fun h1 => ?_)
 ·rw [ok_f1 (by unfold arT; rw [hz]; exact Classical.byContradiction fun n => by have:=hin n; omega)]
  repeat (first | refine gT ?_ | refine gF ?_ | refine brT ?_ | refine brF ?_)
  exact And.intro (Or.inr rfl) rfl
 repeat (first | refine gT ?_ | refine gF ?_ | refine brT ?_ | refine brF ?_)
 refine gr (fun e => ?_) (fun h16 => ?_)
 ·rw [ok_f1 (by unfold arT; rw [hz]; exact Classical.byContradiction fun n => by have:=hin n; omega)]
  repeat (first | refine gT ?_ | refine gF ?_ | refine brT ?_ | refine brF ?_)
  exact And.intro (Or.inr rfl) rfl
 repeat (first | refine gT ?_ | refine gF ?_ | refine brT ?_ | refine brF ?_)
 have hr0:=(hrest ⟨by omega,by omega⟩).1
 refine grN (fun e => ?_) (fun h2 => ?_)
 ·rw [ok_f2 hz (by simp only [irows_len] at e; intro e2; exact e (by rw [e2]))]
  repeat (first | refine gT ?_ | refine gF ?_ | refine brT ?_ | refine brF ?_)
  exact And.intro (Or.inr rfl) rfl
 repeat (first | refine gT ?_ | refine gF ?_ | refine brT ?_ | refine brF ?_)
 refine brB (fun e => ?_) (fun h3 => ?_)
 ·rw [ok_f3 (s:=s) e]
  exact And.intro (Or.inr rfl) rfl
 have h2 : ts.length = s.ar.length:=by simp only [irows_len] at h2; omega
 have hle : ((ts.zip s.ar).length : Int) = s.ar.length:=by rw [List.length_zip]; omega
 refine aw_loopN 1 (fun k : Nat => stOf [(0,stpv (pre ++ s :: post)),(1,.int .i64 (pre.length : Int)),(5,.bp 0 0),(6,lin ts),(8,.bool b),(9,.int .i64 (k : Int))] [(0,.box (srow s))] 1) (fun k => k <= s.ar.length ∧ ((ts.zip s.ar).take k).all (argB pre) = true) (fun k => s.ar.length - k) 0 ⟨Nat.zero_le _,rfl⟩
  (.inl (le_by ⟨rfl,rfl,rfl,rfl,rfl,rfl,trivial⟩ ⟨rfl,trivial⟩ (Nat.le_refl _))) (by kernel_rfl) ?_
 rintro k ⟨hk,hall⟩ P hP
 refine br (fun g => ?_) (fun g => ?_)
 ·have g : k < s.ar.length:=by have : (k : Int) < ((irows .i64 ts).length : Int):=g; rw [irows_len] at this; omega
  obtain ⟨a,ha⟩:=get_of g
  obtain ⟨t,ht⟩:=get_of (l:=ts) (i:=k) (by omega)
  have hza:=zip_at ht ha
  refine And.intro (Int.natCast_nonneg k) (Exists.intro _ (And.intro (irow_at ha) ?_))
  refine And.intro (by kernel_rfl) ?_
  refine gr (fun e => ?_) (fun e1 => ?_)
  ·rw [ok_f4 (pre:=pre) hz (all_false hza (by unfold argB; rw [decide_eq_false (show ¬ 0 <= a by omega)]; rfl))]
   repeat (first | refine gT ?_ | refine gF ?_ | refine brT ?_ | refine brF ?_)
   exact And.intro (Or.inr rfl) rfl
  repeat (first | refine gT ?_ | refine gF ?_ | refine brT ?_ | refine brF ?_)
  refine gr (fun e => ?_) (fun e2 => ?_)
  ·rw [ok_f4 (pre:=pre) hz (all_false hza (by unfold argB; rw [decide_eq_false (show ¬ a < (pre.length : Int) by omega)]; simp))]
   repeat (first | refine gT ?_ | refine gF ?_ | refine brT ?_ | refine brF ?_)
   exact And.intro (Or.inr rfl) rfl
  repeat (first | refine gT ?_ | refine gF ?_ | refine brT ?_ | refine brF ?_)
  obtain ⟨o,ho⟩:=get_of (l:=pre) (i:=a.toNat) (by omega)
  have ho2 : ((pre ++ s :: post).map srow)[a.toNat]? = some (srow o):=by
   rw [List.getElem?_map,List.getElem?_append_left (by omega),ho]; rfl
  have ht1:=opT_spec (op:=o.op)
  have ht2:=fits_spec (want:=t) (is:=arT o) (hp o (List.mem_of_getElem? ho))
  have hab : argB pre (t,a) = accB t (arT o):=by
   unfold argB
   rw [decide_eq_true (show 0 <= a by omega),decide_eq_true (show a < (pre.length : Int) by omega)]
   simp [ho]
  refine And.intro (show 0 <= a by omega) (Exists.intro _ (And.intro ho2 ?_))
  repeat (first | refine gT ?_ | refine gF ?_ | refine brT ?_ | refine brF ?_)
  first | refine Exists.intro _ (And.intro (ht1) ?_) | refine Hn_by (Exists.intro _ (And.intro (ht1) ?_))
  repeat (first | refine gT ?_ | refine gF ?_ | refine brT ?_ | refine brF ?_)
  refine And.intro (Int.natCast_nonneg k) (Exists.intro _ (And.intro (irow_at ht) ?_))
  repeat (first | refine gT ?_ | refine gF ?_ | refine brT ?_ | refine brF ?_)
  first | refine Exists.intro _ (And.intro (ht2) ?_) | refine Hn_by (Exists.intro _ (And.intro (ht2) ?_))
  repeat (first | refine gT ?_ | refine gF ?_ | refine brT ?_ | refine brF ?_)
  cases hb : accB t (arT o) with
  | false =>
   rw [ok_f4 (pre:=pre) hz (all_false hza (hab.trans hb))]
   repeat (first | refine gT ?_ | refine gF ?_ | refine brT ?_ | refine brF ?_)
   exact And.intro (Or.inr rfl) rfl
  | true =>
   repeat (first | refine gT ?_ | refine gF ?_ | refine brT ?_ | refine brF ?_)
   refine hP (k + 1) _ ?_ ⟨g,by rw [all_succ hza,hall,hab,hb]; rfl⟩ (by omega)
   refine .inl (le_by ⟨rfl,rfl,rfl,rfl,rfl,int_eq ?_,trivial⟩ ⟨rfl,trivial⟩ (Nat.le_refl _))
   exact w64_succ g hs.2.2
 have g : ¬ k < s.ar.length:=by have : ¬ (k : Int) < ((irows .i64 ts).length : Int):=g; rw [irows_len] at this; omega
 rw [List.take_of_length_le (by omega)] at hall
 refine aw_loopN 1 (fun k : Nat => stOf [(0,stpv (pre ++ s :: post)),(1,.int .i64 (pre.length : Int)),(5,.bp 0 0),(8,.bool b),(11,.int .i64 (k : Int))] [(0,.box (srow s))] 1) (fun k => k <= pre.length ∧ (pre.take k).any (eqN s) = false) (fun k => pre.length - k) 0 ⟨Nat.zero_le _,rfl⟩
  (.inl (le_by ⟨rfl,rfl,rfl,rfl,rfl,trivial⟩ ⟨rfl,trivial⟩ (Nat.le_refl _))) (by kernel_rfl) ?_
 clear hP P
 rintro k ⟨hk,hany⟩ P hP
 refine br (fun g => ?_) (fun g => ?_)
 ·have g : k < pre.length:=by have : (k : Int) < (pre.length : Int):=g; omega
  obtain ⟨o,ho⟩:=get_of g
  have ho2 : ((pre ++ s :: post).map srow)[((k : Int)).toNat]? = some (srow o):=srow_at (by rw [List.getElem?_append_left g]; exact ho)
  refine And.intro (by kernel_rfl) ?_
  refine And.intro (Int.natCast_nonneg k) (Exists.intro _ (And.intro ho2 ?_))
  refine brB (fun e => ?_) (fun e => ?_)
  ·rw [ok_f7 (any_true (f:=eqN s) ho e)]
   repeat (first | refine gT ?_ | refine gF ?_ | refine brT ?_ | refine brF ?_)
   exact And.intro (Or.inr rfl) rfl
  ·refine hP (k + 1) _ ?_ ⟨g,any_succ ho hany e⟩ (by omega)
   refine .inl (le_by ⟨rfl,rfl,rfl,rfl,int_eq ?_,trivial⟩ ⟨rfl,trivial⟩ (Nat.le_refl _))
   exact w64_succ g (by omega)
 have g : ¬ k < pre.length:=by have : ¬ (k : Int) < (pre.length : Int):=g; omega
 rw [List.take_of_length_le (by omega)] at hany
 cases h5 : brOk b s.br with
 | false =>
  rw [ok_f5 (pre:=pre) hz h5]
  cases b with
  | true =>
   have h5 : (s.br == 1 || s.br == 2) = false:=h5
   obtain ⟨n1,n2⟩:=Bool.or_eq_false_iff.1 h5
   repeat (first | refine gT ?_ | refine gF ?_ | refine brT ?_ | refine brF ?_)
   refine brN (fun _ => ?_) (fun e => absurd e (ne_of_beq_false n1))
   repeat (first | refine gT ?_ | refine gF ?_ | refine brT ?_ | refine brF ?_)
   refine grN (fun _ => ?_) (fun e => absurd e (ne_of_beq_false n2))
   repeat (first | refine gT ?_ | refine gF ?_ | refine brT ?_ | refine brF ?_)
   exact And.intro (Or.inr rfl) rfl
  | false =>
   have h5 : (s.br == 0) = false:=h5
   repeat (first | refine gT ?_ | refine gF ?_ | refine brT ?_ | refine brF ?_)
   refine brN (fun _ => ?_) (fun e => absurd e (ne_of_beq_false h5))
   repeat (first | refine gT ?_ | refine gF ?_ | refine brT ?_ | refine brF ?_)
   exact And.intro (Or.inr rfl) rfl
 | true =>
 have hfin : okB pre s = xyB s:=by
  cases h6 : xyB s with
  | false => exact ok_f6 h6
  | true => rw [ok_t hz hr0 h2.symm h3 hall h5 h6,hany]; rfl
 cases b with
 | true =>
  have h5 : (s.br == 1 || s.br == 2) = true:=h5
  repeat (first | refine gT ?_ | refine gF ?_ | refine brT ?_ | refine brF ?_)
  refine brN (fun n1 => ?_) (fun e => ?_)
  ·repeat (first | refine gT ?_ | refine gF ?_ | refine brT ?_ | refine brF ?_)
   refine grN (fun n2 => ?_) (fun e => ?_)
   ·rw [beq_false_of_ne n1,beq_false_of_ne n2] at h5
    cases h5
   repeat (first | refine gT ?_ | refine gF ?_ | refine brT ?_ | refine brF ?_)
   refine brE (fun e1 => ?_) (fun n1 => ?_)
   ·skip
    cases hx : qB s.x with
    | false =>
     rw [hfin,show xyB s = false by unfold xyB; rw [if_pos e1,hx]; rfl]
     rw [hx] at hq1
     first | refine Exists.intro _ (And.intro (hq1) ?_) | refine Hn_by (Exists.intro _ (And.intro (hq1) ?_))
     repeat (first | refine gT ?_ | refine gF ?_ | refine brT ?_ | refine brF ?_)
     exact And.intro (Or.inr rfl) rfl
    | true =>
     rw [hx] at hq1
     first | refine Exists.intro _ (And.intro (hq1) ?_) | refine Hn_by (Exists.intro _ (And.intro (hq1) ?_))
     repeat (first | refine gT ?_ | refine gF ?_ | refine brT ?_ | refine brF ?_)
     cases hy : qB s.y with
     | false =>
      rw [hfin,show xyB s = false by unfold xyB; rw [if_pos e1,hx,hy]; rfl]
      rw [hy] at hq2
      first | refine Exists.intro _ (And.intro (hq2) ?_) | refine Hn_by (Exists.intro _ (And.intro (hq2) ?_))
      repeat (first | refine gT ?_ | refine gF ?_ | refine brT ?_ | refine brF ?_)
      exact And.intro (Or.inr rfl) rfl
     | true =>
      rw [hfin,show xyB s = true by unfold xyB; rw [if_pos e1,hx,hy]; rfl]
      rw [hy] at hq2
      first | refine Exists.intro _ (And.intro (hq2) ?_) | refine Hn_by (Exists.intro _ (And.intro (hq2) ?_))
      repeat (first | refine gT ?_ | refine gF ?_ | refine brT ?_ | refine brF ?_)
      exact And.intro (Or.inr rfl) rfl
   refine brE (fun e2 => ?_) (fun n2 => ?_)
   ·skip
    cases hx : qB s.x with
    | false =>
     rw [hfin,show xyB s = false by unfold xyB; rw [if_neg n1,if_pos e2,hx]; rfl]
     rw [hx] at hq1
     first | refine Exists.intro _ (And.intro (hq1) ?_) | refine Hn_by (Exists.intro _ (And.intro (hq1) ?_))
     repeat (first | refine gT ?_ | refine gF ?_ | refine brT ?_ | refine brF ?_)
     exact And.intro (Or.inr rfl) rfl
    | true =>
     rw [hx] at hq1
     first | refine Exists.intro _ (And.intro (hq1) ?_) | refine Hn_by (Exists.intro _ (And.intro (hq1) ?_))
     repeat (first | refine gT ?_ | refine gF ?_ | refine brT ?_ | refine brF ?_)
     cases hy : zB s.ya s.yl s.yc s.ym with
     | false =>
      rw [hfin,show xyB s = false by unfold xyB; rw [if_neg n1,if_pos e2,hx,hy]; rfl]
      rw [hy] at hz2
      first | refine Exists.intro _ (And.intro (hz2) ?_) | refine Hn_by (Exists.intro _ (And.intro (hz2) ?_))
      repeat (first | refine gT ?_ | refine gF ?_ | refine brT ?_ | refine brF ?_)
      exact And.intro (Or.inr rfl) rfl
     | true =>
      rw [hfin,show xyB s = true by unfold xyB; rw [if_neg n1,if_pos e2,hx,hy]; rfl]
      rw [hy] at hz2
      first | refine Exists.intro _ (And.intro (hz2) ?_) | refine Hn_by (Exists.intro _ (And.intro (hz2) ?_))
      repeat (first | refine gT ?_ | refine gF ?_ | refine brT ?_ | refine brF ?_)
      exact And.intro (Or.inr rfl) rfl
   cases hx : zB s.xa s.xl s.xc s.xm with
   | false =>
    rw [hfin,show xyB s = false by unfold xyB; rw [if_neg n1,if_neg n2,hx]; rfl]
    rw [hx] at hz1
    first | refine Exists.intro _ (And.intro (hz1) ?_) | refine Hn_by (Exists.intro _ (And.intro (hz1) ?_))
    repeat (first | refine gT ?_ | refine gF ?_ | refine brT ?_ | refine brF ?_)
    exact And.intro (Or.inr rfl) rfl
   | true =>
    rw [hx] at hz1
    first | refine Exists.intro _ (And.intro (hz1) ?_) | refine Hn_by (Exists.intro _ (And.intro (hz1) ?_))
    repeat (first | refine gT ?_ | refine gF ?_ | refine brT ?_ | refine brF ?_)
    cases hy : zB s.ya s.yl s.yc s.ym with
    | false =>
     rw [hfin,show xyB s = false by unfold xyB; rw [if_neg n1,if_neg n2,hx,hy]; rfl]
     rw [hy] at hz2
     first | refine Exists.intro _ (And.intro (hz2) ?_) | refine Hn_by (Exists.intro _ (And.intro (hz2) ?_))
     repeat (first | refine gT ?_ | refine gF ?_ | refine brT ?_ | refine brF ?_)
     exact And.intro (Or.inr rfl) rfl
    | true =>
     rw [hfin,show xyB s = true by unfold xyB; rw [if_neg n1,if_neg n2,hx,hy]; rfl]
     rw [hy] at hz2
     first | refine Exists.intro _ (And.intro (hz2) ?_) | refine Hn_by (Exists.intro _ (And.intro (hz2) ?_))
     repeat (first | refine gT ?_ | refine gF ?_ | refine brT ?_ | refine brF ?_)
     exact And.intro (Or.inr rfl) rfl
  ·repeat (first | refine gT ?_ | refine gF ?_ | refine brT ?_ | refine brF ?_)
   refine brE (fun e1 => ?_) (fun n1 => ?_)
   ·skip
    cases hx : qB s.x with
    | false =>
     rw [hfin,show xyB s = false by unfold xyB; rw [if_pos e1,hx]; rfl]
     rw [hx] at hq1
     first | refine Exists.intro _ (And.intro (hq1) ?_) | refine Hn_by (Exists.intro _ (And.intro (hq1) ?_))
     repeat (first | refine gT ?_ | refine gF ?_ | refine brT ?_ | refine brF ?_)
     exact And.intro (Or.inr rfl) rfl
    | true =>
     rw [hx] at hq1
     first | refine Exists.intro _ (And.intro (hq1) ?_) | refine Hn_by (Exists.intro _ (And.intro (hq1) ?_))
     repeat (first | refine gT ?_ | refine gF ?_ | refine brT ?_ | refine brF ?_)
     cases hy : qB s.y with
     | false =>
      rw [hfin,show xyB s = false by unfold xyB; rw [if_pos e1,hx,hy]; rfl]
      rw [hy] at hq2
      first | refine Exists.intro _ (And.intro (hq2) ?_) | refine Hn_by (Exists.intro _ (And.intro (hq2) ?_))
      repeat (first | refine gT ?_ | refine gF ?_ | refine brT ?_ | refine brF ?_)
      exact And.intro (Or.inr rfl) rfl
     | true =>
      rw [hfin,show xyB s = true by unfold xyB; rw [if_pos e1,hx,hy]; rfl]
      rw [hy] at hq2
      first | refine Exists.intro _ (And.intro (hq2) ?_) | refine Hn_by (Exists.intro _ (And.intro (hq2) ?_))
      repeat (first | refine gT ?_ | refine gF ?_ | refine brT ?_ | refine brF ?_)
      exact And.intro (Or.inr rfl) rfl
   refine brE (fun e2 => ?_) (fun n2 => ?_)
   ·skip
    cases hx : qB s.x with
    | false =>
     rw [hfin,show xyB s = false by unfold xyB; rw [if_neg n1,if_pos e2,hx]; rfl]
     rw [hx] at hq1
     first | refine Exists.intro _ (And.intro (hq1) ?_) | refine Hn_by (Exists.intro _ (And.intro (hq1) ?_))
     repeat (first | refine gT ?_ | refine gF ?_ | refine brT ?_ | refine brF ?_)
     exact And.intro (Or.inr rfl) rfl
    | true =>
     rw [hx] at hq1
     first | refine Exists.intro _ (And.intro (hq1) ?_) | refine Hn_by (Exists.intro _ (And.intro (hq1) ?_))
     repeat (first | refine gT ?_ | refine gF ?_ | refine brT ?_ | refine brF ?_)
     cases hy : zB s.ya s.yl s.yc s.ym with
     | false =>
      rw [hfin,show xyB s = false by unfold xyB; rw [if_neg n1,if_pos e2,hx,hy]; rfl]
      rw [hy] at hz2
      first | refine Exists.intro _ (And.intro (hz2) ?_) | refine Hn_by (Exists.intro _ (And.intro (hz2) ?_))
      repeat (first | refine gT ?_ | refine gF ?_ | refine brT ?_ | refine brF ?_)
      exact And.intro (Or.inr rfl) rfl
     | true =>
      rw [hfin,show xyB s = true by unfold xyB; rw [if_neg n1,if_pos e2,hx,hy]; rfl]
      rw [hy] at hz2
      first | refine Exists.intro _ (And.intro (hz2) ?_) | refine Hn_by (Exists.intro _ (And.intro (hz2) ?_))
      repeat (first | refine gT ?_ | refine gF ?_ | refine brT ?_ | refine brF ?_)
      exact And.intro (Or.inr rfl) rfl
   cases hx : zB s.xa s.xl s.xc s.xm with
   | false =>
    rw [hfin,show xyB s = false by unfold xyB; rw [if_neg n1,if_neg n2,hx]; rfl]
    rw [hx] at hz1
    first | refine Exists.intro _ (And.intro (hz1) ?_) | refine Hn_by (Exists.intro _ (And.intro (hz1) ?_))
    repeat (first | refine gT ?_ | refine gF ?_ | refine brT ?_ | refine brF ?_)
    exact And.intro (Or.inr rfl) rfl
   | true =>
    rw [hx] at hz1
    first | refine Exists.intro _ (And.intro (hz1) ?_) | refine Hn_by (Exists.intro _ (And.intro (hz1) ?_))
    repeat (first | refine gT ?_ | refine gF ?_ | refine brT ?_ | refine brF ?_)
    cases hy : zB s.ya s.yl s.yc s.ym with
    | false =>
     rw [hfin,show xyB s = false by unfold xyB; rw [if_neg n1,if_neg n2,hx,hy]; rfl]
     rw [hy] at hz2
     first | refine Exists.intro _ (And.intro (hz2) ?_) | refine Hn_by (Exists.intro _ (And.intro (hz2) ?_))
     repeat (first | refine gT ?_ | refine gF ?_ | refine brT ?_ | refine brF ?_)
     exact And.intro (Or.inr rfl) rfl
    | true =>
     rw [hfin,show xyB s = true by unfold xyB; rw [if_neg n1,if_neg n2,hx,hy]; rfl]
     rw [hy] at hz2
     first | refine Exists.intro _ (And.intro (hz2) ?_) | refine Hn_by (Exists.intro _ (And.intro (hz2) ?_))
     repeat (first | refine gT ?_ | refine gF ?_ | refine brT ?_ | refine brF ?_)
     exact And.intro (Or.inr rfl) rfl
 | false =>
  have h5 : (s.br == 0) = true:=h5
  repeat (first | refine gT ?_ | refine gF ?_ | refine brT ?_ | refine brF ?_)
  refine brN (fun e => absurd (eq_of_beq h5) e) (fun _ => ?_)
  refine brE (fun e1 => ?_) (fun n1 => ?_)
  ·skip
   cases hx : qB s.x with
   | false =>
    rw [hfin,show xyB s = false by unfold xyB; rw [if_pos e1,hx]; rfl]
    rw [hx] at hq1
    first | refine Exists.intro _ (And.intro (hq1) ?_) | refine Hn_by (Exists.intro _ (And.intro (hq1) ?_))
    repeat (first | refine gT ?_ | refine gF ?_ | refine brT ?_ | refine brF ?_)
    exact And.intro (Or.inr rfl) rfl
   | true =>
    rw [hx] at hq1
    first | refine Exists.intro _ (And.intro (hq1) ?_) | refine Hn_by (Exists.intro _ (And.intro (hq1) ?_))
    repeat (first | refine gT ?_ | refine gF ?_ | refine brT ?_ | refine brF ?_)
    cases hy : qB s.y with
    | false =>
     rw [hfin,show xyB s = false by unfold xyB; rw [if_pos e1,hx,hy]; rfl]
     rw [hy] at hq2
     first | refine Exists.intro _ (And.intro (hq2) ?_) | refine Hn_by (Exists.intro _ (And.intro (hq2) ?_))
     repeat (first | refine gT ?_ | refine gF ?_ | refine brT ?_ | refine brF ?_)
     exact And.intro (Or.inr rfl) rfl
    | true =>
     rw [hfin,show xyB s = true by unfold xyB; rw [if_pos e1,hx,hy]; rfl]
     rw [hy] at hq2
     first | refine Exists.intro _ (And.intro (hq2) ?_) | refine Hn_by (Exists.intro _ (And.intro (hq2) ?_))
     repeat (first | refine gT ?_ | refine gF ?_ | refine brT ?_ | refine brF ?_)
     exact And.intro (Or.inr rfl) rfl
  refine brE (fun e2 => ?_) (fun n2 => ?_)
  ·skip
   cases hx : qB s.x with
   | false =>
    rw [hfin,show xyB s = false by unfold xyB; rw [if_neg n1,if_pos e2,hx]; rfl]
    rw [hx] at hq1
    first | refine Exists.intro _ (And.intro (hq1) ?_) | refine Hn_by (Exists.intro _ (And.intro (hq1) ?_))
    repeat (first | refine gT ?_ | refine gF ?_ | refine brT ?_ | refine brF ?_)
    exact And.intro (Or.inr rfl) rfl
   | true =>
    rw [hx] at hq1
    first | refine Exists.intro _ (And.intro (hq1) ?_) | refine Hn_by (Exists.intro _ (And.intro (hq1) ?_))
    repeat (first | refine gT ?_ | refine gF ?_ | refine brT ?_ | refine brF ?_)
    cases hy : zB s.ya s.yl s.yc s.ym with
    | false =>
     rw [hfin,show xyB s = false by unfold xyB; rw [if_neg n1,if_pos e2,hx,hy]; rfl]
     rw [hy] at hz2
     first | refine Exists.intro _ (And.intro (hz2) ?_) | refine Hn_by (Exists.intro _ (And.intro (hz2) ?_))
     repeat (first | refine gT ?_ | refine gF ?_ | refine brT ?_ | refine brF ?_)
     exact And.intro (Or.inr rfl) rfl
    | true =>
     rw [hfin,show xyB s = true by unfold xyB; rw [if_neg n1,if_pos e2,hx,hy]; rfl]
     rw [hy] at hz2
     first | refine Exists.intro _ (And.intro (hz2) ?_) | refine Hn_by (Exists.intro _ (And.intro (hz2) ?_))
     repeat (first | refine gT ?_ | refine gF ?_ | refine brT ?_ | refine brF ?_)
     exact And.intro (Or.inr rfl) rfl
  cases hx : zB s.xa s.xl s.xc s.xm with
  | false =>
   rw [hfin,show xyB s = false by unfold xyB; rw [if_neg n1,if_neg n2,hx]; rfl]
   rw [hx] at hz1
   first | refine Exists.intro _ (And.intro (hz1) ?_) | refine Hn_by (Exists.intro _ (And.intro (hz1) ?_))
   repeat (first | refine gT ?_ | refine gF ?_ | refine brT ?_ | refine brF ?_)
   exact And.intro (Or.inr rfl) rfl
  | true =>
   rw [hx] at hz1
   first | refine Exists.intro _ (And.intro (hz1) ?_) | refine Hn_by (Exists.intro _ (And.intro (hz1) ?_))
   repeat (first | refine gT ?_ | refine gF ?_ | refine brT ?_ | refine brF ?_)
   cases hy : zB s.ya s.yl s.yc s.ym with
   | false =>
    rw [hfin,show xyB s = false by unfold xyB; rw [if_neg n1,if_neg n2,hx,hy]; rfl]
    rw [hy] at hz2
    first | refine Exists.intro _ (And.intro (hz2) ?_) | refine Hn_by (Exists.intro _ (And.intro (hz2) ?_))
    repeat (first | refine gT ?_ | refine gF ?_ | refine brT ?_ | refine brF ?_)
    exact And.intro (Or.inr rfl) rfl
   | true =>
    rw [hfin,show xyB s = true by unfold xyB; rw [if_neg n1,if_neg n2,hx,hy]; rfl]
    rw [hy] at hz2
    first | refine Exists.intro _ (And.intro (hz2) ?_) | refine Hn_by (Exists.intro _ (And.intro (hz2) ?_))
    repeat (first | refine gT ?_ | refine gF ?_ | refine brT ?_ | refine brF ?_)
    exact And.intro (Or.inr rfl) rfl
end Ab
end
section
open Go Go.Proofs
namespace Ab
set_option maxRecDepth 100000
set_option maxHeartbeats 1000000
abbrev Pr:=Int × Int
def prw (p : Pr) : List AV:=[.int .i64 p.1,.int .i64 p.2]
def ins1 (i : Nat) (s : Sp) : List Pr:=if s.op = 1 then [((i : Int),0),((i : Int),1)] else if s.op = 2 then [((i : Int),0)] else []
def insP : Nat -> List Sp -> List Pr
 | _,[] => []
 | i,s :: l => ins1 i s ++ insP (i + 1) l
theorem insP_snoc : ∀ {i : Nat} {l : List Sp} {s : Sp},insP i (l ++ [s]) = insP i l ++ ins1 (i + l.length) s
 | i,[],s => by simp [insP]
 | i,t :: l,s => by
  rw [List.cons_append,insP,insP_snoc,insP,List.append_assoc,List.length_cons]
  rw [show i + 1 + l.length = i + (l.length + 1) by omega]
theorem ins1_len {i : Nat} {s : Sp} : (ins1 i s).length <= 2:=by
 unfold ins1
 split
 ·exact Nat.le_refl 2
 ·split
  ·exact Nat.le_succ 1
  ·exact Nat.zero_le 2
theorem insP_len : ∀ {i : Nat} {l : List Sp},(insP i l).length <= 2 * l.length
 | i,[] => Nat.zero_le _
 | i,s :: l => by
  rw [insP,List.length_append,List.length_cons]
  have:=insP_len (i:=i + 1) (l:=l)
  have:=ins1_len (i:=i) (s:=s)
  omega
def pacV : List Pr -> AV
 | [] => .nil
 | p :: q => .ms 0 0 (p :: q).length
def pacH : List Pr -> List (Nat × Blk)
 | [] => []
 | p :: q => [(0,.arr (100,2) ((p :: q).map prw) true)]
theorem pout (L : List Pr) : ((L.map prw).drop 0).take L.length = L.map prw:=by rw [List.drop_zero,List.take_of_length_le (by simp)]
theorem take_snc {l : List Sp} {k : Nat} {s : Sp} (h : l[k]? = some s) : insP 0 (l.take (k + 1)) = insP 0 (l.take k) ++ ins1 k s:=by
 have g:=(List.getElem?_eq_some_iff.1 h).1
 have e : (l.take k).length = k:=by rw [List.length_take]; omega
 rw [List.take_add_one,h,show (some s).toList = [s] from rfl,insP_snoc,e,Nat.zero_add]
theorem inputs_spec {l : List Sp} (hl : (l.length : Int) <= 60) : Spec Tryz.prog [] 60 [stpv l] (.sl ((insP 0 l).map prw)):=by
  refine spec_fn T_ok mixed_ok 0 Tryz.func60 fn_ok60 (by kernel_rfl) ?_
  refine aw_loopN 0 (fun k : Nat => stOf [(0,stpv l),(3,pacV (insP 0 (l.take k))),(6,stpv l),(7,.int .i64 (l.length : Int)),(8,.int .i64 (k : Int))] (pacH (insP 0 (l.take k))) 1) (fun k => k <= l.length) (fun k => l.length - k) 0 (Nat.zero_le _)
   (.inl (le_by ⟨rfl,rfl,rfl,int_eq (by rw [srow_len]),rfl,trivial⟩ trivial (Nat.zero_le _))) (by kernel_rfl) ?_
  intro k hk P hP
  refine br (fun g => ?_) (fun g => ?_)
  ·have g : k < l.length:=by first | (have : (k : Int) < (l.length : Int):=g; omega) | (have : (k : Int) < ((l.map srow).length : Int):=g; rw [srow_len] at this; omega)
   obtain ⟨s,hs⟩:=get_of g
   have hn:=take_snc hs
   have hw:=w64_succ g (by omega)
   have hln : (insP 0 (l.take k)).length <= 2 * k:=Nat.le_trans insP_len (by rw [List.length_take]; omega)
   refine And.intro (Int.natCast_nonneg k) (Exists.intro _ (And.intro (srow_at hs) ?_))
   refine brE (fun e1 => ?_) (fun n1 => ?_)
   ·rw [show ins1 k s = [((k : Int),0),((k : Int),1)] by unfold ins1; rw [if_pos e1]] at hn
    have hP:=hP (k + 1)
    rw [hn] at hP
    generalize insP 0 (l.take k) = a at hP hln hn ⊢
    match a with
    | [] =>
     refine And.intro (by decide) (And.intro (by decide) (And.intro (by decide) (And.intro (Nat.le_refl 2) ?_)))
     refine hP _ ?_ g (by omega)
     exact leR_by [(0,3)] [] rfl rfl (Nat.zero_le _) ⟨.inl rfl,⟨by decide,by kernel_rfl⟩,.inl rfl,rfl,int_eq hw,trivial⟩ ⟨⟨rfl,trivial,rfl⟩,trivial⟩
    | p :: q =>
     refine And.intro (show (p :: q).length = ((p :: q).map prw).length by simp) (And.intro (Nat.le_refl 2) (And.intro (show ((p :: q).length + 2) * 16 <= 140737488355328 by omega) (And.intro (show (p :: q).length + 2 <= maxLen by simp only [maxLen]; omega) ?_)))
     refine hP _ ?_ g (by omega)
     refine leR_by [(0,3)] [] rfl rfl (Nat.zero_le _) ⟨.inl rfl,⟨by decide,?_⟩,.inl rfl,rfl,int_eq hw,trivial⟩ ⟨⟨rfl,trivial,?_⟩,trivial⟩
     ·show AV.ms 3 0 ((p :: q).length + 2) = AV.ms 3 0 ((p :: q) ++ [((k : Int),0),((k : Int),1)]).length
      rw [List.length_append]; rfl
     ·show some (Blk.arr (100,2) ((p :: q).map prw ++ [prw ((k : Int),0),prw ((k : Int),1)]) true) = some (Blk.arr (100,2) (((p :: q) ++ [((k : Int),0),((k : Int),1)]).map prw) true)
      rw [List.map_append]; rfl
   refine brE (fun e2 => ?_) (fun n2 => ?_)
   ·rw [show ins1 k s = [((k : Int),0)] by unfold ins1; rw [if_neg n1,if_pos e2]] at hn
    have hP:=hP (k + 1)
    rw [hn] at hP
    generalize insP 0 (l.take k) = a at hP hln hn ⊢
    match a with
    | [] =>
     refine And.intro (by decide) (And.intro (by decide) (And.intro (by decide) (And.intro (Nat.le_refl 1) ?_)))
     refine hP _ ?_ g (by omega)
     exact leR_by [(0,3)] [] rfl rfl (Nat.zero_le _) ⟨.inl rfl,⟨by decide,by kernel_rfl⟩,.inl rfl,rfl,int_eq hw,trivial⟩ ⟨⟨rfl,trivial,rfl⟩,trivial⟩
    | p :: q =>
     refine And.intro (show (p :: q).length = ((p :: q).map prw).length by simp) (And.intro (Nat.le_refl 1) (And.intro (show ((p :: q).length + 1) * 16 <= 140737488355328 by omega) (And.intro (show (p :: q).length + 1 <= maxLen by simp only [maxLen]; omega) ?_)))
     refine hP _ ?_ g (by omega)
     refine leR_by [(0,3)] [] rfl rfl (Nat.zero_le _) ⟨.inl rfl,⟨by decide,?_⟩,.inl rfl,rfl,int_eq hw,trivial⟩ ⟨⟨rfl,trivial,?_⟩,trivial⟩
     ·show AV.ms 3 0 ((p :: q).length + 1) = AV.ms 3 0 ((p :: q) ++ [((k : Int),0)]).length
      rw [List.length_append]; rfl
     ·show some (Blk.arr (100,2) ((p :: q).map prw ++ [prw ((k : Int),0)]) true) = some (Blk.arr (100,2) (((p :: q) ++ [((k : Int),0)]).map prw) true)
      rw [List.map_append]; rfl
   rw [show ins1 k s = [] by unfold ins1; rw [if_neg n1,if_neg n2],List.append_nil] at hn
   have hP:=hP (k + 1)
   rw [hn] at hP
   generalize insP 0 (l.take k) = a at hP hln hn ⊢
   refine hP _ ?_ g (by omega)
   match a with
   | [] => exact leR_by [] [] rfl rfl (Nat.zero_le _) ⟨.inl rfl,rfl,.inl rfl,rfl,int_eq hw,trivial⟩ trivial
   | p :: q => exact leR_by [] [] rfl rfl (Nat.zero_le _) ⟨.inl rfl,⟨by decide,rfl⟩,.inl rfl,rfl,int_eq hw,trivial⟩ ⟨⟨rfl,trivial,rfl⟩,trivial⟩
  ·have g : ¬ k < l.length:=by first | (have : ¬ (k : Int) < (l.length : Int):=g; omega) | (have : ¬ (k : Int) < ((l.map srow).length : Int):=g; rw [srow_len] at this; omega)
   have e : l.take k = l:=List.take_of_length_le (by omega)
   rw [e]
   generalize insP 0 l = a
   match a with
   | [] => exact And.intro (Or.inr rfl) rfl
   | p :: q =>
    refine And.intro (Or.inr rfl) (And.intro (show 0 + (p :: q).length <= ((p :: q).map prw).length by simp) ?_)
    exact congrArg AV.sl (pout (p :: q))
theorem rinputs_spec {l : List Sp} (hl : (l.length : Int) <= 60) : Spec Tryz.prog [] 78 [stpv l] (.sl ((insP 0 l).map prw)):=by
  refine spec_fn T_ok mixed_ok 0 Tryz.func78 fn_ok78 (by kernel_rfl) ?_
  refine aw_loopN 0 (fun k : Nat => stOf [(0,stpv l),(3,pacV (insP 0 (l.take k))),(4,.int .i64 (k : Int))] (pacH (insP 0 (l.take k))) 1) (fun k => k <= l.length) (fun k => l.length - k) 0 (Nat.zero_le _)
   (.inl (le_by ⟨rfl,rfl,rfl,trivial⟩ trivial (Nat.zero_le _))) (by kernel_rfl) ?_
  intro k hk P hP
  refine br (fun g => ?_) (fun g => ?_)
  ·have g : k < l.length:=by first | (have : (k : Int) < (l.length : Int):=g; omega) | (have : (k : Int) < ((l.map srow).length : Int):=g; rw [srow_len] at this; omega)
   obtain ⟨s,hs⟩:=get_of g
   have hn:=take_snc hs
   have hw:=w64_succ g (by omega)
   have hln : (insP 0 (l.take k)).length <= 2 * k:=Nat.le_trans insP_len (by rw [List.length_take]; omega)
   refine And.intro (Int.natCast_nonneg k) (Exists.intro _ (And.intro (srow_at hs) ?_))
   refine brE (fun e1 => ?_) (fun n1 => ?_)
   ·rw [show ins1 k s = [((k : Int),0),((k : Int),1)] by unfold ins1; rw [if_pos e1]] at hn
    have hP:=hP (k + 1)
    rw [hn] at hP
    generalize insP 0 (l.take k) = a at hP hln hn ⊢
    match a with
    | [] =>
     refine And.intro (by decide) (And.intro (by decide) (And.intro (by decide) (And.intro (Nat.le_refl 2) ?_)))
     refine hP _ ?_ g (by omega)
     exact leR_by [(0,2)] [] rfl rfl (Nat.zero_le _) ⟨.inl rfl,⟨by decide,by kernel_rfl⟩,int_eq hw,trivial⟩ ⟨⟨rfl,trivial,rfl⟩,trivial⟩
    | p :: q =>
     refine And.intro (show (p :: q).length = ((p :: q).map prw).length by simp) (And.intro (Nat.le_refl 2) (And.intro (show ((p :: q).length + 2) * 16 <= 140737488355328 by omega) (And.intro (show (p :: q).length + 2 <= maxLen by simp only [maxLen]; omega) ?_)))
     refine hP _ ?_ g (by omega)
     refine leR_by [(0,2)] [] rfl rfl (Nat.zero_le _) ⟨.inl rfl,⟨by decide,?_⟩,int_eq hw,trivial⟩ ⟨⟨rfl,trivial,?_⟩,trivial⟩
     ·show AV.ms 2 0 ((p :: q).length + 2) = AV.ms 2 0 ((p :: q) ++ [((k : Int),0),((k : Int),1)]).length
      rw [List.length_append]; rfl
     ·show some (Blk.arr (100,2) ((p :: q).map prw ++ [prw ((k : Int),0),prw ((k : Int),1)]) true) = some (Blk.arr (100,2) (((p :: q) ++ [((k : Int),0),((k : Int),1)]).map prw) true)
      rw [List.map_append]; rfl
   refine brE (fun e2 => ?_) (fun n2 => ?_)
   ·rw [show ins1 k s = [((k : Int),0)] by unfold ins1; rw [if_neg n1,if_pos e2]] at hn
    have hP:=hP (k + 1)
    rw [hn] at hP
    generalize insP 0 (l.take k) = a at hP hln hn ⊢
    match a with
    | [] =>
     refine And.intro (by decide) (And.intro (by decide) (And.intro (by decide) (And.intro (Nat.le_refl 1) ?_)))
     refine hP _ ?_ g (by omega)
     exact leR_by [(0,2)] [] rfl rfl (Nat.zero_le _) ⟨.inl rfl,⟨by decide,by kernel_rfl⟩,int_eq hw,trivial⟩ ⟨⟨rfl,trivial,rfl⟩,trivial⟩
    | p :: q =>
     refine And.intro (show (p :: q).length = ((p :: q).map prw).length by simp) (And.intro (Nat.le_refl 1) (And.intro (show ((p :: q).length + 1) * 16 <= 140737488355328 by omega) (And.intro (show (p :: q).length + 1 <= maxLen by simp only [maxLen]; omega) ?_)))
     refine hP _ ?_ g (by omega)
     refine leR_by [(0,2)] [] rfl rfl (Nat.zero_le _) ⟨.inl rfl,⟨by decide,?_⟩,int_eq hw,trivial⟩ ⟨⟨rfl,trivial,?_⟩,trivial⟩
     ·show AV.ms 2 0 ((p :: q).length + 1) = AV.ms 2 0 ((p :: q) ++ [((k : Int),0)]).length
      rw [List.length_append]; rfl
     ·show some (Blk.arr (100,2) ((p :: q).map prw ++ [prw ((k : Int),0)]) true) = some (Blk.arr (100,2) (((p :: q) ++ [((k : Int),0)]).map prw) true)
      rw [List.map_append]; rfl
   rw [show ins1 k s = [] by unfold ins1; rw [if_neg n1,if_neg n2],List.append_nil] at hn
   have hP:=hP (k + 1)
   rw [hn] at hP
   generalize insP 0 (l.take k) = a at hP hln hn ⊢
   refine hP _ ?_ g (by omega)
   match a with
   | [] => exact leR_by [] [] rfl rfl (Nat.zero_le _) ⟨.inl rfl,rfl,int_eq hw,trivial⟩ trivial
   | p :: q => exact leR_by [] [] rfl rfl (Nat.zero_le _) ⟨.inl rfl,⟨by decide,rfl⟩,int_eq hw,trivial⟩ ⟨⟨rfl,trivial,rfl⟩,trivial⟩
  ·have g : ¬ k < l.length:=by first | (have : ¬ (k : Int) < (l.length : Int):=g; omega) | (have : ¬ (k : Int) < ((l.map srow).length : Int):=g; rw [srow_len] at this; omega)
   have e : l.take k = l:=List.take_of_length_le (by omega)
   rw [e]
   generalize insP 0 l = a
   match a with
   | [] => exact And.intro (Or.inr rfl) rfl
   | p :: q =>
    refine And.intro (Or.inr rfl) (And.intro (show 0 + (p :: q).length <= ((p :: q).map prw).length by simp) ?_)
    exact congrArg AV.sl (pout (p :: q))
end Ab
end
section
open Go Go.Proofs
namespace Ab
set_option maxRecDepth 100000
set_option maxHeartbeats 1000000
def rts1 (i : Nat) (s : Sp) : List Int:=if arB s = true then [(i : Int)] else []
def rtsP : Nat -> List Sp -> List Int
 | _,[] => []
 | i,s :: l => rts1 i s ++ rtsP (i + 1) l
theorem rtsP_snoc : ∀ {i : Nat} {l : List Sp} {s : Sp},rtsP i (l ++ [s]) = rtsP i l ++ rts1 (i + l.length) s
 | i,[],s => by simp [rtsP]
 | i,t :: l,s => by
  rw [List.cons_append,rtsP,rtsP_snoc,rtsP,List.append_assoc,List.length_cons]
  rw [show i + 1 + l.length = i + (l.length + 1) by omega]
theorem rtsP_len : ∀ {i : Nat} {l : List Sp},(rtsP i l).length <= l.length
 | i,[] => Nat.zero_le _
 | i,s :: l => by
  rw [rtsP,List.length_append,List.length_cons]
  have:=rtsP_len (i:=i + 1) (l:=l)
  have : (rts1 i s).length <= 1:=by
   unfold rts1
   split
   ·exact Nat.le_refl 1
   ·exact Nat.zero_le 1
  omega
theorem take_rts {l : List Sp} {k : Nat} {s : Sp} (h : l[k]? = some s) : rtsP 0 (l.take (k + 1)) = rtsP 0 (l.take k) ++ rts1 k s:=by
 have g:=(List.getElem?_eq_some_iff.1 h).1
 have e : (l.take k).length = k:=by rw [List.length_take]; omega
 rw [List.take_add_one,h,show (some s).toList = [s] from rfl,rtsP_snoc,e,Nat.zero_add]
def iacV : List Int -> AV
 | [] => .nil
 | p :: q => .ms 0 0 (p :: q).length
def iacH : List Int -> List (Nat × Blk)
 | [] => []
 | p :: q => [(0,.arr (3,1) (irows .i64 (p :: q)) true)]
theorem iout (L : List Int) : ((irows .i64 L).drop 0).take L.length = irows .i64 L:=by rw [List.drop_zero,List.take_of_length_le (by simp [irows])]
theorem roots_spec {l : List Sp} (hl : (l.length : Int) <= 60) : Spec Tryz.prog [] 110 [stpv l] (lin (rtsP 0 l)):=by
 refine spec_fn T_ok mixed_ok 0 Tryz.func110 fn_ok110 (by kernel_rfl) ?_
 refine aw_loopN 0 (fun k : Nat => stOf [(0,stpv l),(3,iacV (rtsP 0 (l.take k))),(4,.int .i64 (k : Int))] (iacH (rtsP 0 (l.take k))) 1) (fun k => k <= l.length) (fun k => l.length - k) 0 (Nat.zero_le _)
  (.inl (le_by ⟨rfl,rfl,rfl,trivial⟩ trivial (Nat.zero_le _))) (by kernel_rfl) ?_
 intro k hk P hP
 refine br (fun g => ?_) (fun g => ?_)
 ·have g : k < l.length:=by have : (k : Int) < ((l.map srow).length : Int):=g; rw [srow_len] at this; omega
  obtain ⟨s,hs⟩:=get_of g
  have hn:=take_rts hs
  have hw:=w64_succ g (by omega)
  have hln : (rtsP 0 (l.take k)).length <= k:=Nat.le_trans rtsP_len (by rw [List.length_take]; omega)
  have v:=arity9_spec (op:=s.op)
  have hP:=hP (k + 1)
  unfold rts1 arB at hn
  generalize arF s.op = z at v hn
  obtain ⟨ts,r,b⟩:=z
  refine And.intro (Int.natCast_nonneg k) (Exists.intro _ (And.intro (srow_at hs) ?_))
  first | refine Exists.intro _ (And.intro (v) ?_) | refine Hn_by (Exists.intro _ (And.intro (v) ?_))
  cases b with
  | true =>
   rw [if_pos rfl] at hn
   rw [hn] at hP
   generalize rtsP 0 (l.take k) = a at hP hln hn ⊢
   repeat (first | refine gT ?_ | refine gF ?_ | refine brT ?_ | refine brF ?_)
   match a with
   | [] =>
    refine And.intro (by decide) (And.intro (by decide) (And.intro (by decide) (And.intro (Nat.le_refl 1) ?_)))
    refine hP _ ?_ g (by omega)
    exact leR_by [(0,2)] [] rfl rfl (Nat.zero_le _) ⟨.inl rfl,⟨by decide,by kernel_rfl⟩,int_eq hw,trivial⟩ ⟨⟨rfl,trivial,rfl⟩,trivial⟩
   | p :: q =>
    refine And.intro (show (p :: q).length = (irows .i64 (p :: q)).length by rw [irows_len]) (And.intro (Nat.le_refl 1) (And.intro (show ((p :: q).length + 1) * 8 <= 140737488355328 by omega) (And.intro (show (p :: q).length + 1 <= maxLen by simp only [maxLen]; omega) ?_)))
    refine hP _ ?_ g (by omega)
    refine leR_by [(0,2)] [] rfl rfl (Nat.zero_le _) ⟨.inl rfl,⟨by decide,?_⟩,int_eq hw,trivial⟩ ⟨⟨rfl,trivial,?_⟩,trivial⟩
    ·show AV.ms 2 0 ((p :: q).length + 1) = AV.ms 2 0 ((p :: q) ++ [(k : Int)]).length
     rw [List.length_append]; rfl
    ·show some (Blk.arr (3,1) (irows .i64 (p :: q) ++ [[.int .i64 (k : Int)]]) true) = some (Blk.arr (3,1) (irows .i64 ((p :: q) ++ [(k : Int)])) true)
     unfold irows
     rw [List.map_append]; rfl
  | false =>
   rw [if_neg (show ¬ false = true by decide),List.append_nil] at hn
   rw [hn] at hP
   generalize rtsP 0 (l.take k) = a at hP hln hn ⊢
   repeat (first | refine gT ?_ | refine gF ?_ | refine brT ?_ | refine brF ?_)
   refine hP _ ?_ g (by omega)
   match a with
   | [] => exact leR_by [] [] rfl rfl (Nat.zero_le _) ⟨.inl rfl,rfl,int_eq hw,trivial⟩ trivial
   | p :: q => exact leR_by [] [] rfl rfl (Nat.zero_le _) ⟨.inl rfl,⟨by decide,rfl⟩,int_eq hw,trivial⟩ ⟨⟨rfl,trivial,rfl⟩,trivial⟩
 ·have g : ¬ k < l.length:=by have : ¬ (k : Int) < ((l.map srow).length : Int):=g; rw [srow_len] at this; omega
  have e : l.take k = l:=List.take_of_length_le (by omega)
  rw [e]
  generalize rtsP 0 l = a
  match a with
  | [] => exact And.intro (Or.inr rfl) rfl
  | p :: q =>
   refine And.intro (Or.inr rfl) (And.intro (show 0 + (p :: q).length <= (irows .i64 (p :: q)).length by rw [irows_len]; omega) ?_)
   exact congrArg AV.sl (iout (p :: q))
def okTo (l : List Sp) (k : Nat) : Prop:=∀ j s,j < k -> l[j]? = some s -> okB (l.take j) s = true
theorem okTo_succ {l : List Sp} {k : Nat} {s : Sp} (h : okTo l k) (hs : l[k]? = some s) (hb : okB (l.take k) s = true) : okTo l (k + 1):=fun j t hj ht => by
 by_cases e : j = k
 ·subst e
  rw [hs] at ht
  cases ht
  exact hb
 ·exact h j t (by omega) ht
theorem ok_ar {pre : List Sp} {s : Sp} (h : okB pre s = true) : arT s ≠ 0:=fun e => by rw [ok_f1 e] at h; cases h
open Classical in
noncomputable def chkS (l : List Sp) : Int:=if okTo l l.length then (if l.length > 40 ∨ (rtsP 0 l).length > 5 ∨ (insP 0 l).length > 20 then 111 else 0) else 120
theorem chk_bad {l : List Sp} {k : Nat} {s : Sp} (hs : l[k]? = some s) (hb : okB (l.take k) s = false) : chkS l = 120:=by
 unfold chkS
 rw [if_neg]
 intro h
 have:=h k s (List.getElem?_eq_some_iff.1 hs).1 hs
 rw [hb] at this
 cases this
def SpsOk (l : List Sp) : Prop:=∀ s ∈ l,SpOk s
theorem check12_spec {l : List Sp} (h : SpsOk l) (hl : (l.length : Int) <= 60) : Spec Tryz.prog [] 59 [stpv l] (.int .i64 (chkS l)):=by
 have ins:=inputs_spec hl
 refine spec_fn T_ok mixed_ok 0 Tryz.func59 fn_ok59 (by kernel_rfl) ?_
 refine aw_loopN 0 (fun k : Nat => stOf [(0,stpv l),(3,.int .i64 ((rtsP 0 (l.take k)).length : Int)),(6,stpv l),(7,.int .i64 (l.length : Int)),(8,.int .i64 (k : Int))] [] 0) (fun k => k <= l.length ∧ okTo l k) (fun k => l.length - k) 0 ⟨Nat.zero_le _,fun j _ hj => absurd hj (by omega)⟩
  (.inl (le_by ⟨rfl,rfl,rfl,int_eq (by rw [srow_len]),rfl,trivial⟩ trivial (Nat.le_refl _))) (by kernel_rfl) ?_
 rintro k ⟨hk,hok⟩ P hP
 refine br (fun g => ?_) (fun g => ?_)
 ·have g : k < l.length:=by have : (k : Int) < (l.length : Int):=g; omega
  obtain ⟨s,hs⟩:=get_of g
  have hw:=w64_succ g (by omega)
  have hn:=take_rts hs
  have hln : (rtsP 0 (l.take k)).length <= k:=Nat.le_trans rtsP_len (by rw [List.length_take]; omega)
  have hsk:=h s (List.mem_of_getElem? hs)
  have v:=wellFormed_spec (pre:=l.take k) hsk (by rw [List.length_take]; omega)
  have vb:=branching_spec (s:=s)
  rw [show stpv (l.take k ++ [s]) = .sl (((l.map srow).take (w64 ((k : Int) + 1)).toNat).drop 0) by
   rw [hw,Int.toNat_natCast,List.drop_zero,<- List.map_take,List.take_add_one,hs]; rfl] at v
  refine And.intro (Int.natCast_nonneg k) (Exists.intro _ (And.intro (srow_at hs) ?_))
  refine And.intro (show (0 : Int) <= w64 ((k : Int) + 1) by omega) (And.intro (show w64 ((k : Int) + 1) <= ((l.map srow).length : Int) by rw [srow_len]; omega) (And.intro (srow_ok _) ?_))
  cases hb : okB (l.take k) s with
  | false =>
   rw [hb] at v
   rw [chk_bad hs hb]
   first | refine Exists.intro _ (And.intro (v) ?_) | refine Hn_by (Exists.intro _ (And.intro (v) ?_))
   repeat (first | refine gT ?_ | refine gF ?_ | refine brT ?_ | refine brF ?_)
   exact And.intro (Or.inr rfl) rfl
  | true =>
   rw [hb] at v
   first | refine Exists.intro _ (And.intro (v) ?_) | refine Hn_by (Exists.intro _ (And.intro (v) ?_))
   repeat (first | refine gT ?_ | refine gF ?_ | refine brT ?_ | refine brF ?_)
   first | refine Exists.intro _ (And.intro (vb) ?_) | refine Hn_by (Exists.intro _ (And.intro (vb) ?_))
   refine brB (fun e => ?_) (fun e => ?_)
   ·rw [show rts1 k s = [(k : Int)] by unfold rts1; rw [if_pos e]] at hn
    refine hP (k + 1) _ ?_ ⟨g,okTo_succ hok hs hb⟩ (by omega)
    refine leC_by ⟨⟨rfl,rfl⟩,⟨int_eq ?_,rfl⟩,⟨rfl,rfl⟩,⟨rfl,rfl⟩,⟨int_eq ?_,rfl⟩,trivial⟩ trivial (Nat.le_refl _)
    ·rw [hn,List.length_append,List.length_singleton]
     show w64 (((rtsP 0 (l.take k)).length : Int) + 1) = _
     rw [w64_eq (by omega)]
     omega
    ·exact hw
   ·rw [show rts1 k s = [] by unfold rts1; rw [if_neg (by rw [e]; decide)],List.append_nil] at hn
    refine hP (k + 1) _ ?_ ⟨g,okTo_succ hok hs hb⟩ (by omega)
    refine leC_by ⟨⟨rfl,rfl⟩,⟨int_eq ?_,rfl⟩,⟨rfl,rfl⟩,⟨rfl,rfl⟩,⟨int_eq ?_,rfl⟩,trivial⟩ trivial (Nat.le_refl _)
    ·rw [hn]
    ·exact hw
 ·have g : ¬ k < l.length:=by have : ¬ (k : Int) < (l.length : Int):=g; omega
  have e : k = l.length:=by omega
  subst e
  rw [List.take_length]
  have li : (((insP 0 l).map prw).length : Int) = (insP 0 l).length:=by rw [List.length_map]
  have hfin : chkS l = if l.length > 40 ∨ (rtsP 0 l).length > 5 ∨ (insP 0 l).length > 20 then 111 else 0:=by unfold chkS; rw [if_pos hok]
  refine gr (fun e => ?_) (fun n1 => ?_)
  ·rw [hfin,if_pos (.inl (by simp only [srow_len] at e; omega))]
   repeat (first | refine gT ?_ | refine gF ?_ | refine brT ?_ | refine brF ?_)
   exact And.intro (Or.inr rfl) rfl
  repeat (first | refine gT ?_ | refine gF ?_ | refine brT ?_ | refine brF ?_)
  refine gr (fun e => ?_) (fun n2 => ?_)
  ·rw [hfin,if_pos (.inr (.inl (by omega)))]
   repeat (first | refine gT ?_ | refine gF ?_ | refine brT ?_ | refine brF ?_)
   exact And.intro (Or.inr rfl) rfl
  repeat (first | refine gT ?_ | refine gF ?_ | refine brT ?_ | refine brF ?_)
  first | refine Exists.intro _ (And.intro (ins) ?_) | refine Hn_by (Exists.intro _ (And.intro (ins) ?_))
  repeat (first | refine gT ?_ | refine gF ?_ | refine brT ?_ | refine brF ?_)
  refine br (fun e => ?_) (fun n3 => ?_)
  ·rw [hfin,if_pos (.inr (.inr (by omega)))]
   repeat (first | refine gT ?_ | refine gF ?_ | refine brT ?_ | refine brF ?_)
   exact And.intro (Or.inr rfl) rfl
  ·rw [hfin,if_neg (by simp only [srow_len] at n1; omega)]
   repeat (first | refine gT ?_ | refine gF ?_ | refine brT ?_ | refine brF ?_)
   exact And.intro (Or.inr rfl) rfl
theorem rcheck12_spec {l : List Sp} (h : SpsOk l) (hl : (l.length : Int) <= 60) : Spec Tryz.prog [] 77 [stpv l] (.int .i64 (chkS l)):=by
 have ins:=rinputs_spec hl
 have rts:=roots_spec hl
 refine spec_fn T_ok mixed_ok 0 Tryz.func77 fn_ok77 (by kernel_rfl) ?_
 refine aw_loopN 0 (fun k : Nat => stOf [(0,stpv l),(3,.int .i64 (k : Int))] [] 0) (fun k => k <= l.length ∧ okTo l k) (fun k => l.length - k) 0 ⟨Nat.zero_le _,fun j _ hj => absurd hj (by omega)⟩
  (.inl (le_by ⟨rfl,rfl,trivial⟩ trivial (Nat.le_refl _))) (by kernel_rfl) ?_
 rintro k ⟨hk,hok⟩ P hP
 refine br (fun g => ?_) (fun g => ?_)
 ·have g : k < l.length:=by have : (k : Int) < ((l.map srow).length : Int):=g; rw [srow_len] at this; omega
  obtain ⟨s,hs⟩:=get_of g
  have hw:=w64_succ g (by omega)
  have hsk:=h s (List.mem_of_getElem? hs)
  have e1 : (l.take k).length = k:=by rw [List.length_take]; omega
  have e2 : l.take k ++ s :: l.drop (k + 1) = l:=by
   have:=List.take_append_drop k l
   rw [List.drop_eq_getElem_cons g,show l[k] = s by rw [List.getElem?_eq_getElem g] at hs; exact Option.some.inj hs] at this
   exact this
  have v:=right_spec (pre:=l.take k) (post:=l.drop (k + 1)) hsk (by rw [e2]; omega) (fun o ho => by
   obtain ⟨j,hj⟩:=List.mem_iff_getElem?.1 ho
   have hjk : j < k:=by have:=(List.getElem?_eq_some_iff.1 hj).1; omega
   rw [List.getElem?_take_of_lt hjk] at hj
   exact ok_ar (hok j o hjk hj))
  rw [e2,e1] at v
  cases hb : okB (l.take k) s with
  | false =>
   rw [hb] at v
   rw [chk_bad hs hb]
   first | refine Exists.intro _ (And.intro (v) ?_) | refine Hn_by (Exists.intro _ (And.intro (v) ?_))
   repeat (first | refine gT ?_ | refine gF ?_ | refine brT ?_ | refine brF ?_)
   exact And.intro (Or.inr rfl) rfl
  | true =>
   rw [hb] at v
   first | refine Exists.intro _ (And.intro (v) ?_) | refine Hn_by (Exists.intro _ (And.intro (v) ?_))
   repeat (first | refine gT ?_ | refine gF ?_ | refine brT ?_ | refine brF ?_)
   refine hP (k + 1) _ ?_ ⟨g,okTo_succ hok hs hb⟩ (by omega)
   exact .inl (le_by ⟨rfl,int_eq hw,trivial⟩ trivial (Nat.le_refl _))
 ·have g : ¬ k < l.length:=by have : ¬ (k : Int) < ((l.map srow).length : Int):=g; rw [srow_len] at this; omega
  have e : k = l.length:=by omega
  subst e
  have li : (((insP 0 l).map prw).length : Int) = (insP 0 l).length:=by rw [List.length_map]
  have lr : ((irows .i64 (rtsP 0 l)).length : Int) = (rtsP 0 l).length:=by rw [irows_len]
  have hfin : chkS l = if l.length > 40 ∨ (rtsP 0 l).length > 5 ∨ (insP 0 l).length > 20 then 111 else 0:=by unfold chkS; rw [if_pos hok]
  refine gr (fun e => ?_) (fun n1 => ?_)
  ·rw [hfin,if_pos (.inl (by simp only [srow_len] at e; omega))]
   repeat (first | refine gT ?_ | refine gF ?_ | refine brT ?_ | refine brF ?_)
   exact And.intro (Or.inr rfl) rfl
  repeat (first | refine gT ?_ | refine gF ?_ | refine brT ?_ | refine brF ?_)
  first | refine Exists.intro _ (And.intro (ins) ?_) | refine Hn_by (Exists.intro _ (And.intro (ins) ?_))
  repeat (first | refine gT ?_ | refine gF ?_ | refine brT ?_ | refine brF ?_)
  refine gr (fun e => ?_) (fun n3 => ?_)
  ·rw [hfin,if_pos (.inr (.inr (by omega)))]
   repeat (first | refine gT ?_ | refine gF ?_ | refine brT ?_ | refine brF ?_)
   exact And.intro (Or.inr rfl) rfl
  repeat (first | refine gT ?_ | refine gF ?_ | refine brT ?_ | refine brF ?_)
  first | refine Exists.intro _ (And.intro (rts) ?_) | refine Hn_by (Exists.intro _ (And.intro (rts) ?_))
  repeat (first | refine gT ?_ | refine gF ?_ | refine brT ?_ | refine brF ?_)
  refine br (fun e => ?_) (fun n2 => ?_)
  ·rw [hfin,if_pos (.inr (.inl (by omega)))]
   repeat (first | refine gT ?_ | refine gF ?_ | refine brT ?_ | refine brF ?_)
   exact And.intro (Or.inr rfl) rfl
  ·rw [hfin,if_neg (by simp only [srow_len] at n1; omega)]
   repeat (first | refine gT ?_ | refine gF ?_ | refine brT ?_ | refine brF ?_)
   exact And.intro (Or.inr rfl) rfl
noncomputable def insF (l : List Sp) : AV:=if chkS l = 0 then .tup [.sl ((insP 0 l).map prw),.int .i64 0] else .tup [.sl [],.int .i64 (chkS l)]
theorem Inputs_spec {l : List Sp} (h : SpsOk l) (hl : (l.length : Int) <= 60) : Spec Tryz.prog [] 33 [stpv l] (insF l):=by
  have c:=check12_spec h hl
  have ins:=inputs_spec hl
  unfold insF
  by_cases e : chkS l = 0
  ·rw [if_pos e]
   rw [e] at c
   refine spec_fn T_ok mixed_ok 0 Tryz.func33 fn_ok33 (by kernel_rfl) ?_
   first | refine Exists.intro _ (And.intro (c) ?_) | refine Hn_by (Exists.intro _ (And.intro (c) ?_))
   repeat (first | refine gT ?_ | refine gF ?_ | refine brT ?_ | refine brF ?_)
   first | refine Exists.intro _ (And.intro (ins) ?_) | refine Hn_by (Exists.intro _ (And.intro (ins) ?_))
   exact And.intro (Or.inr rfl) rfl
  ·rw [if_neg e]
   refine spec_fn T_ok mixed_ok 0 Tryz.func33 fn_ok33 (by kernel_rfl) ?_
   first | refine Exists.intro _ (And.intro (c) ?_) | refine Hn_by (Exists.intro _ (And.intro (c) ?_))
   refine brN (fun _ => ?_) (fun g => absurd g e)
   exact And.intro (Or.inr rfl) rfl
theorem rInputs_spec {l : List Sp} (h : SpsOk l) (hl : (l.length : Int) <= 60) : Spec Tryz.prog [] 50 [stpv l] (insF l):=by
  have c:=rcheck12_spec h hl
  have ins:=rinputs_spec hl
  unfold insF
  by_cases e : chkS l = 0
  ·rw [if_pos e]
   rw [e] at c
   refine spec_fn T_ok mixed_ok 0 Tryz.func50 fn_ok50 (by kernel_rfl) ?_
   first | refine Exists.intro _ (And.intro (c) ?_) | refine Hn_by (Exists.intro _ (And.intro (c) ?_))
   repeat (first | refine gT ?_ | refine gF ?_ | refine brT ?_ | refine brF ?_)
   first | refine Exists.intro _ (And.intro (ins) ?_) | refine Hn_by (Exists.intro _ (And.intro (ins) ?_))
   exact And.intro (Or.inr rfl) rfl
  ·rw [if_neg e]
   refine spec_fn T_ok mixed_ok 0 Tryz.func50 fn_ok50 (by kernel_rfl) ?_
   first | refine Exists.intro _ (And.intro (c) ?_) | refine Hn_by (Exists.intro _ (And.intro (c) ?_))
   refine brN (fun _ => ?_) (fun g => absurd g e)
   exact And.intro (Or.inr rfl) rfl
end Ab
end
