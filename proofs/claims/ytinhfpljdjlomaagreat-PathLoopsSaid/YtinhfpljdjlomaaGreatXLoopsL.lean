import Derived.Test.YtinhfpljdjlomaaGreatXGk
import Derived.Test.YtinhfpljdjlomaaGreatXCorners
import Derived.Test.YtinhfpljdjlomaaGreatXWorks
import Derived.Test.YtinhfpljdjlomaaGreatXShapeL
open Go Go.Proofs
namespace Ab
set_option maxRecDepth 100000
set_option maxHeartbeats 1000000
theorem set_aftL {p : Ps} {i : Nat} {r : List AV} : ∀ {l : List (Nat × Mv)},(∀ x ∈ l,x.1 ≠ i) -> aftL (p.set i r) l = (aftL p l).set i r
 | [],_ => rfl
 | x :: l,h => by
  show aftL ((p.set i r).set x.1 x.2.to) l = (aftL (p.set x.1 x.2.to) l).set i r
  rw [List.set_comm _ _ (Ne.symm (h x (by simp)))]
  exact set_aftL fun y hy => h y (by simp [hy])
theorem aftL_comm {p : Ps} {m : List (Nat × Mv)} : ∀ {l : List (Nat × Mv)},(∀ x ∈ l,∀ y ∈ m,x.1 ≠ y.1) -> aftL (aftL p m) l = aftL (aftL p l) m
 | [],_ => rfl
 | x :: l,h => by
  show aftL ((aftL p m).set x.1 x.2.to) l = aftL (aftL (p.set x.1 x.2.to) l) m
  rw [<- set_aftL fun y hy => Ne.symm (h x (by simp) y hy)]
  exact aftL_comm fun y hy z hz => h y (by simp [hy]) z hz
theorem zip_fst {t : List Nat} {a : List Mv} : ∀ x ∈ t.zip a,x.1 ∈ t:=fun x hx => (List.of_mem_zip (a:=x.1) (b:=x.2) hx).1
theorem path_of {c : List Ps} {n : Nat} (hn : n <= 20) (h0 : 0 < c.length) (h24 : c.length <= 24) (h : ∀ p ∈ c,Okp p ∧ p.length = n) : pathB c = true:=pathB_iff.2 ⟨n,hn,⟨h0,h24⟩,fun p hp => ⟨(h p hp).2,(h p hp).1⟩⟩
theorem lop_none {l : List Sp} {p : Ps} {a b : List Mv} (hc : chkS l = 0) (hb : (p.all qB && ((p.length : Int) == ((insP 0 l).length : Int))) = true) (h : tgP (insP 0 l) a = none ∨ tgP (insP 0 l) b = none ∨ tgP (insP 0 l) (a ++ b) = none) : lopF l p a b = .tup [.sl [],.int .i64 170]:=by
 unfold lopF
 rw [if_pos hc,hb]
 rcases h with h | h | h
 ·rw [h]
 ·rw [h]
  cases tgP (insP 0 l) a <;> rfl
 ·rw [h]
  cases tgP (insP 0 l) a <;> cases tgP (insP 0 l) b <;> rfl
theorem lop_some {l : List Sp} {p : Ps} {a b : List Mv} {t u w : List Nat} (hc : chkS l = 0) (hb : (p.all qB && ((p.length : Int) == ((insP 0 l).length : Int))) = true) (h1 : tgP (insP 0 l) a = some t) (h2 : tgP (insP 0 l) b = some u) (h3 : tgP (insP 0 l) (a ++ b) = some w) :
  lopF l p a b = .tup [pthv [p,aftL p (t.zip a),aftL (aftL p (t.zip a)) (u.zip b),aftL p (u.zip b),p],.int .i64 0]:=by
 unfold lopF
 rw [if_pos hc,hb,h1,h2,h3]
theorem mov_some {l : List Sp} {p : Ps} {a : List Mv} {t : List Nat} (hc : chkS l = 0) (hb : (p.all qB && ((p.length : Int) == ((insP 0 l).length : Int))) = true) (h1 : tgP (insP 0 l) a = some t) : movF l p a = .tup [pthv [p,aftL p (t.zip a)],.int .i64 0]:=by
 unfold movF
 rw [if_pos hc,hb,h1]
theorem lop_both {l : List Sp} {p : Ps} {a b : List Mv} : (∃ e f : Int,e ≠ 0 ∧ f ≠ 0 ∧ lopF l p a b = .tup [.sl [],.int .i64 e] ∧ lopF l p b a = .tup [.sl [],.int .i64 f]) ∨
  ∃ t u,chkS l = 0 ∧ (p.all qB && ((p.length : Int) == ((insP 0 l).length : Int))) = true ∧ tgP (insP 0 l) a = some t ∧ tgP (insP 0 l) b = some u ∧ (∀ n ∈ u,n ∉ t) ∧
   lopF l p a b = .tup [pthv [p,aftL p (t.zip a),aftL (aftL p (t.zip a)) (u.zip b),aftL p (u.zip b),p],.int .i64 0] ∧
   lopF l p b a = .tup [pthv [p,aftL p (u.zip b),aftL (aftL p (t.zip a)) (u.zip b),aftL p (t.zip a),p],.int .i64 0]:=by
 by_cases hc : chkS l = 0
 rotate_left
 ·exact .inl ⟨chkS l,chkS l,hc,hc,by unfold lopF; rw [if_neg hc],by unfold lopF; rw [if_neg hc]⟩
 cases hb : (p.all qB && ((p.length : Int) == ((insP 0 l).length : Int))) with
 | false => exact .inl ⟨1,1,by decide,by decide,by unfold lopF; rw [if_pos hc,hb],by unfold lopF; rw [if_pos hc,hb]⟩
 | true =>
 cases ht : tgP (insP 0 l) a with
 | none => exact .inl ⟨170,170,by decide,by decide,lop_none hc hb (.inl ht),lop_none hc hb (.inr (.inl ht))⟩
 | some t =>
 cases hu : tgP (insP 0 l) b with
 | none => exact .inl ⟨170,170,by decide,by decide,lop_none hc hb (.inr (.inl hu)),lop_none hc hb (.inl hu)⟩
 | some u =>
 obtain ⟨i1,i2⟩:=tgP_app ht hu
 obtain ⟨j1,j2⟩:=tgP_app hu ht
 by_cases he : ∃ n,n ∈ u ∧ n ∈ t
 ·exact .inl ⟨170,170,by decide,by decide,lop_none hc hb (.inr (.inr (i2 he))),lop_none hc hb (.inr (.inr (j2 (by obtain ⟨n,h1,h2⟩:=he; exact ⟨n,h2,h1⟩))))⟩
 ·have hd : ∀ n ∈ u,n ∉ t:=fun n h1 h2 => he ⟨n,h1,h2⟩
  refine .inr ⟨t,u,hc,rfl,rfl,rfl,hd,lop_some hc hb ht hu (i1 hd),?_⟩
  rw [lop_some hc hb hu ht (j1 fun n h1 h2 => hd n h2 h1),aftL_comm fun x hx y hy e => hd y.1 (zip_fst y hy) (by rw [<- e]; exact zip_fst x hx)]
theorem loops_law {l : List Sp} {p : Ps} {a b : List Mv} (h : SpsOk l) (hp : QDs p) (ha : MvsOk a) (hb : MvsOk b) : Spec Tryz.prog [] 8 [stpv l,.agg [.sl p,mvv a,mvv b]] (.bool true):=by
 rcases lop_both (l:=l) (p:=p) (a:=a) (b:=b) with ⟨e,f,he,hf,e1,e2⟩ | ⟨t,u,hc,hb1,ht,hu,hd,e1,e2⟩
 ·skip
  refine spec_fn T_ok mixed_ok 0 Tryz.func8 fn_ok8 (by kernel_rfl) ?_
  refine gr (fun e => ?_) (fun g1 => ?_)
  ·repeat (first | refine gT ?_ | refine gF ?_ | refine brT ?_ | refine brF ?_)
   first | refine Exists.intro _ (And.intro (works_spec) ?_) | refine Hn_by (Exists.intro _ (And.intro (works_spec) ?_))
   exact And.intro (Or.inr rfl) rfl
  repeat (first | refine gT ?_ | refine gF ?_ | refine brT ?_ | refine brF ?_)
  refine gr (fun e => ?_) (fun g2 => ?_)
  ·repeat (first | refine gT ?_ | refine gF ?_ | refine brT ?_ | refine brF ?_)
   first | refine Exists.intro _ (And.intro (works_spec) ?_) | refine Hn_by (Exists.intro _ (And.intro (works_spec) ?_))
   exact And.intro (Or.inr rfl) rfl
  repeat (first | refine gT ?_ | refine gF ?_ | refine brT ?_ | refine brF ?_)
  refine gr (fun e => ?_) (fun g3 => ?_)
  ·repeat (first | refine gT ?_ | refine gF ?_ | refine brT ?_ | refine brF ?_)
   first | refine Exists.intro _ (And.intro (works_spec) ?_) | refine Hn_by (Exists.intro _ (And.intro (works_spec) ?_))
   exact And.intro (Or.inr rfl) rfl
  repeat (first | refine gT ?_ | refine gF ?_ | refine brT ?_ | refine brF ?_)
  refine br (fun e => ?_) (fun g4 => ?_)
  ·first | refine Exists.intro _ (And.intro (works_spec) ?_) | refine Hn_by (Exists.intro _ (And.intro (works_spec) ?_))
   exact And.intro (Or.inr rfl) rfl
  rw [srow_len] at g1
  rw [mrow_len] at g3 g4
  have hl : (l.length : Int) <= 60:=by omega
  have hpl : (p.length : Int) <= 9223372036854775807:=by omega
  have x1:=loop_spec h hl hp hpl ha hb (by omega) (by omega)
  have x2:=loop_spec h hl hp hpl hb ha (by omega) (by omega)
  rw [e1] at x1
  rw [e2] at x2
  first | refine Exists.intro _ (And.intro (x1) ?_) | refine Hn_by (Exists.intro _ (And.intro (x1) ?_))
  first | refine Exists.intro _ (And.intro (x2) ?_) | refine Hn_by (Exists.intro _ (And.intro (x2) ?_))
  refine brN (fun _ => ?_) (fun g => absurd g he)
  first | refine Exists.intro _ (And.intro (works_spec) ?_) | refine Hn_by (Exists.intro _ (And.intro (works_spec) ?_))
  repeat (first | refine gT ?_ | refine gF ?_ | refine brT ?_ | refine brF ?_)
  refine And.intro (Or.inr rfl) (congrArg AV.bool ?_)
  simp [hf]
 ·skip
  refine spec_fn T_ok mixed_ok 0 Tryz.func8 fn_ok8 (by kernel_rfl) ?_
  refine gr (fun e => ?_) (fun g1 => ?_)
  ·repeat (first | refine gT ?_ | refine gF ?_ | refine brT ?_ | refine brF ?_)
   first | refine Exists.intro _ (And.intro (works_spec) ?_) | refine Hn_by (Exists.intro _ (And.intro (works_spec) ?_))
   exact And.intro (Or.inr rfl) rfl
  repeat (first | refine gT ?_ | refine gF ?_ | refine brT ?_ | refine brF ?_)
  refine gr (fun e => ?_) (fun g2 => ?_)
  ·repeat (first | refine gT ?_ | refine gF ?_ | refine brT ?_ | refine brF ?_)
   first | refine Exists.intro _ (And.intro (works_spec) ?_) | refine Hn_by (Exists.intro _ (And.intro (works_spec) ?_))
   exact And.intro (Or.inr rfl) rfl
  repeat (first | refine gT ?_ | refine gF ?_ | refine brT ?_ | refine brF ?_)
  refine gr (fun e => ?_) (fun g3 => ?_)
  ·repeat (first | refine gT ?_ | refine gF ?_ | refine brT ?_ | refine brF ?_)
   first | refine Exists.intro _ (And.intro (works_spec) ?_) | refine Hn_by (Exists.intro _ (And.intro (works_spec) ?_))
   exact And.intro (Or.inr rfl) rfl
  repeat (first | refine gT ?_ | refine gF ?_ | refine brT ?_ | refine brF ?_)
  refine br (fun e => ?_) (fun g4 => ?_)
  ·first | refine Exists.intro _ (And.intro (works_spec) ?_) | refine Hn_by (Exists.intro _ (And.intro (works_spec) ?_))
   exact And.intro (Or.inr rfl) rfl
  rw [srow_len] at g1
  rw [mrow_len] at g3 g4
  have hl : (l.length : Int) <= 60:=by omega
  have hpl : (p.length : Int) <= 9223372036854775807:=by omega
  have h20:=chk_ins hc
  obtain ⟨okp,hpl2⟩:=posB_of hb1
  have x1:=loop_spec h hl hp hpl ha hb (by omega) (by omega)
  have x2:=loop_spec h hl hp hpl hb ha (by omega) (by omega)
  rw [e1] at x1
  rw [e2] at x2
  have m1:=move_spec h hl hp hpl ha (by omega)
  rw [mov_some hc hb1 ht] at m1
  have hqa:=qoks ht
  have hqb:=qoks hu
  have okq : Okp (aftL p (t.zip a)):=aftL_ok okp (zip_to hqa)
  have lq : (aftL p (t.zip a)).length = p.length:=aftL_len _ _
  have hb2 : ((aftL p (t.zip a)).all qB && (((aftL p (t.zip a)).length : Int) == ((insP 0 l).length : Int))) = true:=by
   rw [Bool.and_eq_true,List.all_eq_true,beq_iff_eq,lq,hpl2]
   exact ⟨fun r hr => qB_iff.2 (okq r hr),rfl⟩
  have m2:=move_spec h hl okq.qd (by omega) hb (by omega)
  rw [mov_some hc hb2 hu] at m2
  have okr : Okp (aftL (aftL p (t.zip a)) (u.zip b)):=aftL_ok okq (zip_to hqb)
  have lr : (aftL (aftL p (t.zip a)) (u.zip b)).length = p.length:=(aftL_len _ _).trans lq
  have oks : Okp (aftL p (u.zip b)):=aftL_ok okp (zip_to hqb)
  have ls : (aftL p (u.zip b)).length = p.length:=aftL_len _ _
  generalize aftL (aftL p (t.zip a)) (u.zip b) = r at *
  generalize aftL p (t.zip a) = q at *
  generalize aftL p (u.zip b) = s at *
  have c:=Inputs_spec h hl
  unfold insF at c
  rw [if_pos hc] at c
  have hall : ∀ z ∈ [p,q,r,s,p],Okp z ∧ z.length = p.length:=by
   intro z hz
   simp only [List.mem_cons,List.not_mem_nil,or_false] at hz
   rcases hz with rfl | rfl | rfl | rfl | rfl
   ·exact ⟨okp,rfl⟩
   ·exact ⟨okq,lq⟩
   ·exact ⟨okr,lr⟩
   ·exact ⟨oks,ls⟩
   ·exact ⟨okp,rfl⟩
  have px : pathB [p,q,r,s,p] = true:=path_of (n:=p.length) (by omega) (by simp) (by simp) hall
  have py : pathB [p,s,r,q,p] = true:=pathB_rev px
  have rv:=reverse_spec (okc_qd py)
  rw [show revF [p,s,r,q,p] = .tup [pthv [p,q,r,s,p],.int .i64 0] by unfold revF; rw [py]; rfl] at rv
  have ck:=check_spec (n:=(((insP 0 l).map prw).length : Int)) (okc_qd px)
  rw [show chkF [p,q,r,s,p] (((insP 0 l).map prw).length : Int) = 0 by
   have hx:=px
   unfold pathB at hx
   rw [List.length_map,<- hpl2]
   exact eq_of_beq hx] at ck
  have jn:=join_spec (a:=[p,q]) (b:=[q,r]) (okc_qd (path_of (n:=p.length) (by omega) (by simp) (by simp) fun z hz => hall z (by simp only [List.mem_cons,List.not_mem_nil,or_false] at hz ⊢; rcases hz with rfl | rfl <;> simp)))
   (okc_qd (path_of (n:=p.length) (by omega) (by simp) (by simp) fun z hz => hall z (by simp only [List.mem_cons,List.not_mem_nil,or_false] at hz ⊢; rcases hz with rfl | rfl <;> simp)))
  have ej : joinB [p,q] [q,r] = true:=joinB_iff.2 ⟨path_of (n:=p.length) (by omega) (by simp) (by simp) fun z hz => hall z (by simp only [List.mem_cons,List.not_mem_nil,or_false] at hz ⊢; rcases hz with rfl | rfl <;> simp),path_of (n:=p.length) (by omega) (by simp) (by simp) fun z hz => hall z (by simp only [List.mem_cons,List.not_mem_nil,or_false] at hz ⊢; rcases hz with rfl | rfl <;> simp),rfl,by simp⟩
  rw [show joinF [p,q] [q,r] = .tup [pthv [p,q,r],.int .i64 0] by unfold joinF; rw [ej]; rfl] at jn
  have ps:=paths_spec (okc_of px).1 (okc_qd px) (by simp)
  rw [same_true rfl] at ps
  have p3 : pathB [p,q,r] = true:=path_of (n:=p.length) (by omega) (by simp) (by simp) fun z hz => hall z (by simp only [List.mem_cons,List.not_mem_nil,or_false] at hz ⊢; rcases hz with rfl | rfl | rfl <;> simp)
  have p4:=paths_spec (okc_of p3).1 (okc_qd p3) (by simp)
  rw [same_true rfl] at p4
  have cl:=closed_spec (okc_qd px)
  rw [show closedB [p,q,r,s,p] = true by unfold closedB; rw [px]; exact same_true rfl] at cl
  first | refine Exists.intro _ (And.intro (x1) ?_) | refine Hn_by (Exists.intro _ (And.intro (x1) ?_))
  first | refine Exists.intro _ (And.intro (x2) ?_) | refine Hn_by (Exists.intro _ (And.intro (x2) ?_))
  repeat (first | refine gT ?_ | refine gF ?_ | refine brT ?_ | refine brF ?_)
  first | refine Exists.intro _ (And.intro (c) ?_) | refine Hn_by (Exists.intro _ (And.intro (c) ?_))
  first | refine Exists.intro _ (And.intro (rv) ?_) | refine Hn_by (Exists.intro _ (And.intro (rv) ?_))
  first | refine Exists.intro _ (And.intro (m1) ?_) | refine Hn_by (Exists.intro _ (And.intro (m1) ?_))
  repeat (first | refine gT ?_ | refine gF ?_ | refine brT ?_ | refine brF ?_)
  first | refine Exists.intro _ (And.intro (ck) ?_) | refine Hn_by (Exists.intro _ (And.intro (ck) ?_))
  repeat (first | refine gT ?_ | refine gF ?_ | refine brT ?_ | refine brF ?_)
  refine And.intro (by kernel_rfl) ?_
  refine And.intro (by decide) (Exists.intro _ (And.intro rfl ?_))
  first | refine Exists.intro _ (And.intro (m2) ?_) | refine Hn_by (Exists.intro _ (And.intro (m2) ?_))
  first | refine Exists.intro _ (And.intro (jn) ?_) | refine Hn_by (Exists.intro _ (And.intro (jn) ?_))
  first | refine Exists.intro _ (And.intro (works_spec) ?_) | refine Hn_by (Exists.intro _ (And.intro (works_spec) ?_))
  repeat (first | refine gT ?_ | refine gF ?_ | refine brT ?_ | refine brF ?_)
  first | refine Exists.intro _ (And.intro (ps) ?_) | refine Hn_by (Exists.intro _ (And.intro (ps) ?_))
  repeat (first | refine gT ?_ | refine gF ?_ | refine brT ?_ | refine brF ?_)
  first | refine Exists.intro _ (And.intro (cl) ?_) | refine Hn_by (Exists.intro _ (And.intro (cl) ?_))
  repeat (first | refine gT ?_ | refine gF ?_ | refine brT ?_ | refine brF ?_)
  refine And.intro (by decide) (And.intro (show (3 : Int) <= ((prow [p,q,r,s,p]).length : Int) by rw [prow_len]; simp) (And.intro (prow_ok _) ?_))
  repeat (first | refine gT ?_ | refine gF ?_ | refine brT ?_ | refine brF ?_)
  first | refine Exists.intro _ (And.intro (p4) ?_) | refine Hn_by (Exists.intro _ (And.intro (p4) ?_))
  exact And.intro (Or.inr rfl) rfl
end Ab
