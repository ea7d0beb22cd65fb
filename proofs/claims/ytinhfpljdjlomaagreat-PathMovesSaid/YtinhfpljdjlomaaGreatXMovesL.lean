import Derived.Test.YtinhfpljdjlomaaGreatXLoop2
open Go Go.Proofs
namespace Ab
set_option maxRecDepth 100000
set_option maxHeartbeats 1000000
theorem okc_all {c : List Ps} {n : Nat} (hn : n <= 20) (h : ∀ p ∈ c,Okp p ∧ p.length = n) : Okc c:=fun p hp => ⟨(h p hp).1,by have:=(h p hp).2; omega⟩
theorem mov_form {l : List Sp} {p : Ps} {a : List Mv} : ∃ c e,movF l p a = .tup [pthv c,.int .i64 e] ∧ Okc c ∧ c.length <= 24:=by
 have bad : ∀ e,∃ c f,AV.tup [.sl [],.int .i64 e] = .tup [pthv c,.int .i64 f] ∧ Okc c ∧ c.length <= 24:=fun e => ⟨[],e,rfl,(fun _ h => by cases h),Nat.zero_le _⟩
 unfold movF
 by_cases hc : chkS l = 0
 rotate_left
 ·rw [if_neg hc]; exact bad _
 rw [if_pos hc]
 have h20:=chk_ins hc
 cases hb : (p.all qB && ((p.length : Int) == ((insP 0 l).length : Int))) with
 | false => exact bad _
 | true =>
 obtain ⟨okp,hpl2⟩:=posB_of hb
 cases ht : tgP (insP 0 l) a with
 | none => exact bad _
 | some t =>
  refine ⟨_,_,rfl,okc_all (n:=p.length) (by omega) fun z hz => ?_,by simp⟩
  simp only [List.mem_cons,List.not_mem_nil,or_false] at hz
  rcases hz with rfl | rfl
  ·exact ⟨okp,rfl⟩
  ·exact ⟨aftL_ok okp (zip_to (qoks ht)),aftL_len _ _⟩
theorem lop_form {l : List Sp} {p : Ps} {a b : List Mv} : ∃ c e,lopF l p a b = .tup [pthv c,.int .i64 e] ∧ Okc c ∧ c.length <= 24:=by
 have bad : ∀ e,∃ c f,AV.tup [.sl [],.int .i64 e] = .tup [pthv c,.int .i64 f] ∧ Okc c ∧ c.length <= 24:=fun e => ⟨[],e,rfl,(fun _ h => by cases h),Nat.zero_le _⟩
 rcases lop_both (l:=l) (p:=p) (a:=a) (b:=b) with ⟨e,f,he,hf,e1,e2⟩ | ⟨t,u,hc,hb1,ht,hu,hd,e1,e2⟩
 ·rw [e1]; exact bad _
 ·rw [e1]
  have h20:=chk_ins hc
  obtain ⟨okp,hpl2⟩:=posB_of hb1
  have okq : Okp (aftL p (t.zip a)):=aftL_ok okp (zip_to (qoks ht))
  refine ⟨_,_,rfl,okc_all (n:=p.length) (by omega) fun z hz => ?_,by simp⟩
  simp only [List.mem_cons,List.not_mem_nil,or_false] at hz
  rcases hz with rfl | rfl | rfl | rfl | rfl
  ·exact ⟨okp,rfl⟩
  ·exact ⟨okq,aftL_len _ _⟩
  ·exact ⟨aftL_ok okq (zip_to (qoks hu)),(aftL_len _ _).trans (aftL_len _ _)⟩
  ·exact ⟨aftL_ok okp (zip_to (qoks hu)),aftL_len _ _⟩
  ·exact ⟨okp,rfl⟩
theorem moves_law {l : List Sp} {p : Ps} {a b : List Mv} (h : SpsOk l) (hp : QDs p) (ha : MvsOk a) (hb : MvsOk b) : Spec Tryz.prog [] 5 [stpv l,.agg [.sl p,mvv a,mvv b]] (.bool true):=by
 refine spec_fn T_ok mixed_ok 0 Tryz.func5 fn_ok5 (by kernel_rfl) ?_
 refine gr (fun e => ?_) (fun g1 => ?_)
 ·repeat (first | refine gT ?_ | refine gF ?_ | refine brT ?_ | refine brF ?_)
  first | refine Exists.intro _ (And.intro (works_spec) ?_) | refine Hn_by (Exists.intro _ (And.intro (works_spec) ?_))
  exact And.intro (Or.inr rfl) rfl
 repeat (first | refine gT ?_ | refine gF ?_ | refine brT ?_ | refine brF ?_)
 refine gr (fun e => ?_) (fun g2 => ?_)
 ·repeat (first | refine gT ?_ | refine gF ?_ | refine brT ?_ | refine brF ?_)
  first | refine Exists.intro _ (And.intro (works_spec) ?_) | refine Hn_by (Exists.intro _ (And.intro (works_spec) ?_))
  exact And.intro (Or.inr rfl) rfl
 repeat (first | refine gT ?_ | refine gF ?_ | refine brT ?_ | refine brF ?_)
 refine gr (fun e => ?_) (fun g3 => ?_)
 ·repeat (first | refine gT ?_ | refine gF ?_ | refine brT ?_ | refine brF ?_)
  first | refine Exists.intro _ (And.intro (works_spec) ?_) | refine Hn_by (Exists.intro _ (And.intro (works_spec) ?_))
  exact And.intro (Or.inr rfl) rfl
 repeat (first | refine gT ?_ | refine gF ?_ | refine brT ?_ | refine brF ?_)
 refine br (fun e => ?_) (fun g4 => ?_)
 ·first | refine Exists.intro _ (And.intro (works_spec) ?_) | refine Hn_by (Exists.intro _ (And.intro (works_spec) ?_))
  exact And.intro (Or.inr rfl) rfl
 rw [srow_len] at g1
 rw [mrow_len] at g3 g4
 have hl : (l.length : Int) <= 60:=by omega
 have hpl : (p.length : Int) <= 9223372036854775807:=by omega
 have m1:=move_spec h hl hp hpl ha (by omega)
 have m2:=rmove_spec h hl hp hpl ha (by omega)
 have x1:=loop_spec h hl hp hpl ha hb (by omega) (by omega)
 have x2:=rloop_spec h hl hp hpl ha hb (by omega) (by omega)
 obtain ⟨c,e,em,oc,lc⟩:=mov_form (l:=l) (p:=p) (a:=a)
 obtain ⟨d,f,el,od,ld⟩:=lop_form (l:=l) (p:=p) (a:=a) (b:=b)
 rw [em] at m1 m2
 rw [el] at x1 x2
 have p1:=paths_spec oc oc.qd (by omega)
 have p2:=paths_spec od od.qd (by omega)
 rw [same_true rfl] at p1 p2
 first | refine Exists.intro _ (And.intro (m1) ?_) | refine Hn_by (Exists.intro _ (And.intro (m1) ?_))
 first | refine Exists.intro _ (And.intro (m2) ?_) | refine Hn_by (Exists.intro _ (And.intro (m2) ?_))
 first | refine Exists.intro _ (And.intro (x1) ?_) | refine Hn_by (Exists.intro _ (And.intro (x1) ?_))
 first | refine Exists.intro _ (And.intro (x2) ?_) | refine Hn_by (Exists.intro _ (And.intro (x2) ?_))
 first | refine Exists.intro _ (And.intro (works_spec) ?_) | refine Hn_by (Exists.intro _ (And.intro (works_spec) ?_))
 repeat (first | refine gT ?_ | refine gF ?_ | refine brT ?_ | refine brF ?_)
 refine brE (fun _ => ?_) (fun g => absurd rfl g)
 repeat (first | refine gT ?_ | refine gF ?_ | refine brT ?_ | refine brF ?_)
 first | refine Exists.intro _ (And.intro (p1) ?_) | refine Hn_by (Exists.intro _ (And.intro (p1) ?_))
 repeat (first | refine gT ?_ | refine gF ?_ | refine brT ?_ | refine brF ?_)
 refine brE (fun _ => ?_) (fun g => absurd rfl g)
 repeat (first | refine gT ?_ | refine gF ?_ | refine brT ?_ | refine brF ?_)
 first | refine Exists.intro _ (And.intro (p2) ?_) | refine Hn_by (Exists.intro _ (And.intro (p2) ?_))
 exact And.intro (Or.inr rfl) rfl
end Ab
