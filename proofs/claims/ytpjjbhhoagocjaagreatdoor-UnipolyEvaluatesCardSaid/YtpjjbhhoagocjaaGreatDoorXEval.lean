import Derived.Test.YtpjjbhhoagocjaaGreatDoorXGz
open Go Go.Proofs
namespace Ab
set_option maxRecDepth 100000
set_option maxHeartbeats 1000000
def hor (p : List Rat) (x : Rat) : Nat -> Rat
 | 0 => 0
 | t + 1 => hor p x t * x + cf p (p.length - 1 - t)
structure EvOk (p : List Rat) (x : Rat) : Prop where
 m : ∀ t,t < p.length -> FM (hor p x t) x
 a : ∀ t,t < p.length -> FA (hor p x t * x) (cf p (p.length - 1 - t))
theorem want1 (gl : List (Nat × AV)) {p : List Rat} (hp : Poly p) : Spec Tryz.prog gl 51 [.sl [[polyV p]]] (.tup []) :=
 want_spec gl (l:=[p]) (by intro r hr; simp only [List.mem_cons,List.not_mem_nil,or_false] at hr; rcases hr with rfl; exact hp) (by simp)
theorem Eval_spec (gl : List (Nat × AV)) {p : List Rat} {x : Rat} (hp : Poly p) (hx : RF x) (ok : EvOk p x) : Spec Tryz.prog gl 30 [polyV p,rV x] (.tup [rV (hor p x p.length),.int .i64 0]):=by
 have w:=want1 gl hp
 have v:=valid_rat gl hx
 have o0 : Spec Tryz.prog gl 59 [.int .i64 0] (rV 0):=of_uni gl (n:=0) (by decide) (by decide)
 have lp:=poly_len p
 unfold rV rv at o0 v
 refine spec_fn T_ok mixed_ok 3 Tryz.func30 fn_ok30 (by kernel_rfl) ?_
 refine Hn_by (And.intro (Nat.le_refl 1) ?_)
 first | refine Exists.intro _ (And.intro (w) ?_) | refine Hn_by (Exists.intro _ (And.intro (w) ?_))
 first | refine Exists.intro _ (And.intro (v) ?_) | refine Hn_by (Exists.intro _ (And.intro (v) ?_))
 repeat (first | refine gT ?_ | refine gF ?_ | refine brT ?_ | refine brF ?_)
 first | refine Exists.intro _ (And.intro (o0) ?_) | refine Hn_by (Exists.intro _ (And.intro (o0) ?_))
 repeat (first | refine gT ?_ | refine gF ?_ | refine brT ?_ | refine brF ?_)
 refine Hn_in Tryz.f68 Tryz.func68 fn_ok68 (by kernel_rfl) ?_
 refine And.intro (Or.inr rfl) ?_
 refine Gn_in Tryz.f119 Tryz.func119 fn_ok119 (by kernel_rfl) fun y => ?_
 refine aw_loopN 5 (fun k : Nat => stOf [(0,.yl y),(1,.bp 4 0),(3,.int .i64 ((k : Int) - 1))] [(0,.box (rv x)),(1,.box (rv (hor p x (p.length - k)))),(2,.box [.int .i64 0]),(4,.box [polyV p])] 5) (fun k => k <= p.length) (fun k => k) p.length (Nat.le_refl _)
  (.inl (le_by ⟨rfl,rfl,int_eq ?_,trivial⟩ ⟨rfl,?_,rfl,rfl,trivial⟩ (show 5 <= 5 by decide))) (by kernel_rfl) ?_
 ·show w64 (((p.map rv).length : Int) - 1) = _
  rw [lp,w64_eq (by have:=hp.2.1; omega)]
 ·show some (Blk.box (rv 0)) = some (Blk.box (rv (hor p x (p.length - p.length))))
  rw [Nat.sub_self]; rfl
 intro k hk P hP
 cases k with
 | zero =>
  clear hP
  rw [Nat.sub_zero]
  repeat (first | refine gT ?_ | refine gF ?_ | refine brT ?_ | refine brF ?_)
  refine And.intro (Or.inl rfl) ?_
  repeat (first | refine gT ?_ | refine gF ?_ | refine brT ?_ | refine brF ?_)
  exact And.intro (Or.inr rfl) rfl
 | succ k =>
  have e : (((k + 1 : Nat) : Int) - 1) = (k : Int):=by omega
  have ek : p.length - 1 - (p.length - (k + 1)) = k:=by omega
  have mu:=mul_rat gl (ok.m (p.length - (k + 1)) (by omega))
  have ad:=add_rat gl (ok.a (p.length - (k + 1)) (by omega))
  have m1:=must_spec gl (hor p x (p.length - (k + 1)) * x)
  have m2:=must_spec gl (hor p x (p.length - (k + 1)) * x + cf p (p.length - 1 - (p.length - (k + 1))))
  rw [ek] at ad m2
  have eh : hor p x (p.length - (k + 1)) * x + cf p k = hor p x (p.length - k):=by
   rw [show p.length - k = p.length - (k + 1) + 1 by omega]
   show _ = hor p x (p.length - (k + 1)) * x + cf p (p.length - 1 - (p.length - (k + 1)))
   rw [ek]
  rw [e]
  generalize hor p x (p.length - (k + 1)) = h at mu ad m1 m2 eh ⊢
  unfold rV rv at mu ad m1 m2
  refine br (fun _ => ?_) (fun g => absurd (show (k : Int) ≥ 0 by omega) g)
  repeat (first | refine gT ?_ | refine gF ?_ | refine brT ?_ | refine brF ?_)
  refine And.intro (Int.natCast_nonneg k) (Exists.intro _ (And.intro (idx_nat rfl (by omega)) ?_))
  repeat (first | refine gT ?_ | refine gF ?_ | refine brT ?_ | refine brF ?_)
  refine And.intro (by kernel_rfl) ?_
  repeat (first | refine gT ?_ | refine gF ?_ | refine brT ?_ | refine brF ?_ | refine And.intro rfl ?_)
  first | refine Exists.intro _ (And.intro (mu) ?_) | refine Hn_by (Exists.intro _ (And.intro (mu) ?_))
  repeat (first | refine gT ?_ | refine gF ?_ | refine brT ?_ | refine brF ?_ | refine And.intro rfl ?_)
  first | refine Exists.intro _ (And.intro (m1) ?_) | refine Hn_by (Exists.intro _ (And.intro (m1) ?_))
  repeat (first | refine gT ?_ | refine gF ?_ | refine brT ?_ | refine brF ?_ | refine And.intro rfl ?_)
  first | refine Exists.intro _ (And.intro (ad) ?_) | refine Hn_by (Exists.intro _ (And.intro (ad) ?_))
  repeat (first | refine gT ?_ | refine gF ?_ | refine brT ?_ | refine brF ?_ | refine And.intro rfl ?_)
  first | refine Exists.intro _ (And.intro (m2) ?_) | refine Hn_by (Exists.intro _ (And.intro (m2) ?_))
  repeat (first | refine gT ?_ | refine gF ?_ | refine brT ?_ | refine brF ?_ | refine And.intro rfl ?_)
  refine hP k _ (leC_by ⟨⟨rfl,rfl⟩,⟨rfl,rfl⟩,⟨int_eq ?_,rfl⟩,trivial⟩ ⟨⟨⟨rfl,rfl⟩,rfl⟩,⟨⟨?_,rfl⟩,rfl⟩,⟨⟨rfl,rfl⟩,rfl⟩,⟨⟨rfl,rfl⟩,rfl⟩,trivial⟩ (Nat.le_refl _)) (by omega) (by omega)
  ·show w64 ((k : Int) - 1) = _
   rw [w64_eq (by have:=hp.2.1; omega)]
  ·show some (Blk.box (rv (h * x + cf p k))) = _
   rw [eh]
end Ab
