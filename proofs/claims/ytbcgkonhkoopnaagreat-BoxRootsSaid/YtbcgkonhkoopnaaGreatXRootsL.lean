import Derived.Test.YtbcgkonhkoopnaaGreatXRootsP
/-!
The law BoxRoots.
-/
open Go Go.Proofs
namespace Ab
set_option maxRecDepth 100000
set_option maxHeartbeats 1000000

theorem roots_no (p : AV) (n m : Int) (a : Bx) (hp : ∃ p1 p2 p3 p4 p5, p = par p1 p2 p3 p4 p5) (s1 : Spec Tryz.prog [] 12 [p] a.av) (s2 : Spec Tryz.prog [] 15 [a.av] (.tup [zeroB.av, .bool false])) (s3 : Spec Tryz.prog [] 17 [a.av] (.bool true)) :
    Spec Tryz.prog [] 4 [p, .int .i64 n, .int .i64 m] (.bool true) := by
  obtain ⟨p1, p2, p3, p4, p5, rfl⟩ := hp
  obtain ⟨aa, ab, ac, ad, aw⟩ := a
  refine spec_fn T_ok mixed_ok 1 Tryz.func4 fn_ok4 (by kernel_rfl) ?_
  first | refine Exists.intro _ (And.intro (sane_spec) ?_) | refine Hn_by (Exists.intro _ (And.intro (sane_spec) ?_))
  repeat (first | refine gT ?_ | refine gF ?_ | refine brT ?_ | refine brF ?_)
  first | refine Exists.intro _ (And.intro (s1) ?_) | refine Hn_by (Exists.intro _ (And.intro (s1) ?_))
  first | refine Exists.intro _ (And.intro (s2) ?_) | refine Hn_by (Exists.intro _ (And.intro (s2) ?_))
  first | refine Exists.intro _ (And.intro (s3) ?_) | refine Hn_by (Exists.intro _ (And.intro (s3) ?_))
  repeat (first | refine gT ?_ | refine gF ?_ | refine brT ?_ | refine brF ?_)
  exact And.intro (Or.inr rfl) rfl

theorem roots_yes (p : AV) (n m : Int) (a s b t m1 m2 k : Bx) (e1 e2 : Bool) (hp : ∃ p1 p2 p3 p4 p5, p = par p1 p2 p3 p4 p5) (s1 : Spec Tryz.prog [] 12 [p] a.av) (s2 : Spec Tryz.prog [] 15 [a.av] (.tup [s.av, .bool true])) (s3 : Spec Tryz.prog [] 17 [a.av] (.bool false))
    (s4 : Spec Tryz.prog [] 18 [a.av, .int .i64 n, .int .i64 m] b.av) (s5 : Spec Tryz.prog [] 15 [b.av] (.tup [t.av, .bool true])) (s6 : Spec Tryz.prog [] 19 [s.av] (.bool true)) (hw : s.w = false)
    (s7 : Spec Tryz.prog [] 14 [s.av, s.av] m1.av) (s8 : Spec Tryz.prog [] 20 [a.av, m1.av] (.bool true)) (s9 : Spec Tryz.prog [] 14 [t.av, t.av] m2.av) (s10 : Spec Tryz.prog [] 20 [b.av, m2.av] (.bool true))
    (s11 : Spec Tryz.prog [] 21 [s.av, t.av] (.bool e1)) (s12 : Spec Tryz.prog [] 16 [t.av] k.av) (s13 : Spec Tryz.prog [] 21 [s.av, k.av] (.bool e2)) (he : e1 = true ∨ e2 = true) :
    Spec Tryz.prog [] 4 [p, .int .i64 n, .int .i64 m] (.bool true) := by
  obtain ⟨p1, p2, p3, p4, p5, rfl⟩ := hp
  obtain ⟨aa, ab, ac, ad, aw⟩ := a
  obtain ⟨sa, sb, sc, sd, sw⟩ := s
  obtain ⟨ba, bb, bc, bd, bw⟩ := b
  obtain ⟨ta, tb, tc, td, tw⟩ := t
  obtain ⟨ma, mb, mc, md, mw⟩ := m1
  obtain ⟨na, nb, nc, nd, nw⟩ := m2
  obtain ⟨ka, kb, kc, kd, kw⟩ := k
  simp only at hw
  subst hw
  cases e1 with
  | true =>
    refine spec_fn T_ok mixed_ok 1 Tryz.func4 fn_ok4 (by kernel_rfl) ?_
    first | refine Exists.intro _ (And.intro (sane_spec) ?_) | refine Hn_by (Exists.intro _ (And.intro (sane_spec) ?_))
    repeat (first | refine gT ?_ | refine gF ?_ | refine brT ?_ | refine brF ?_)
    first | refine Exists.intro _ (And.intro (s1) ?_) | refine Hn_by (Exists.intro _ (And.intro (s1) ?_))
    first | refine Exists.intro _ (And.intro (s2) ?_) | refine Hn_by (Exists.intro _ (And.intro (s2) ?_))
    first | refine Exists.intro _ (And.intro (s3) ?_) | refine Hn_by (Exists.intro _ (And.intro (s3) ?_))
    repeat (first | refine gT ?_ | refine gF ?_ | refine brT ?_ | refine brF ?_)
    first | refine Exists.intro _ (And.intro (s4) ?_) | refine Hn_by (Exists.intro _ (And.intro (s4) ?_))
    first | refine Exists.intro _ (And.intro (s5) ?_) | refine Hn_by (Exists.intro _ (And.intro (s5) ?_))
    refine And.intro (by kernel_rfl) ?_
    repeat (first | refine gT ?_ | refine gF ?_ | refine brT ?_ | refine brF ?_ | refine And.intro rfl ?_)
    first | refine Exists.intro _ (And.intro (s6) ?_) | refine Hn_by (Exists.intro _ (And.intro (s6) ?_))
    repeat (first | refine gT ?_ | refine gF ?_ | refine brT ?_ | refine brF ?_ | refine And.intro rfl ?_)
    first | refine Exists.intro _ (And.intro (s7) ?_) | refine Hn_by (Exists.intro _ (And.intro (s7) ?_))
    repeat (first | refine gT ?_ | refine gF ?_ | refine brT ?_ | refine brF ?_ | refine And.intro rfl ?_)
    first | refine Exists.intro _ (And.intro (s8) ?_) | refine Hn_by (Exists.intro _ (And.intro (s8) ?_))
    repeat (first | refine gT ?_ | refine gF ?_ | refine brT ?_ | refine brF ?_ | refine And.intro rfl ?_)
    first | refine Exists.intro _ (And.intro (s9) ?_) | refine Hn_by (Exists.intro _ (And.intro (s9) ?_))
    repeat (first | refine gT ?_ | refine gF ?_ | refine brT ?_ | refine brF ?_ | refine And.intro rfl ?_)
    first | refine Exists.intro _ (And.intro (s10) ?_) | refine Hn_by (Exists.intro _ (And.intro (s10) ?_))
    repeat (first | refine gT ?_ | refine gF ?_ | refine brT ?_ | refine brF ?_ | refine And.intro rfl ?_)
    first | refine Exists.intro _ (And.intro (s11) ?_) | refine Hn_by (Exists.intro _ (And.intro (s11) ?_))
    repeat (first | refine gT ?_ | refine gF ?_ | refine brT ?_ | refine brF ?_ | refine And.intro rfl ?_)
    exact And.intro (Or.inr rfl) rfl
  | false =>
    obtain rfl : e2 = true := by simpa using he
    refine spec_fn T_ok mixed_ok 1 Tryz.func4 fn_ok4 (by kernel_rfl) ?_
    first | refine Exists.intro _ (And.intro (sane_spec) ?_) | refine Hn_by (Exists.intro _ (And.intro (sane_spec) ?_))
    repeat (first | refine gT ?_ | refine gF ?_ | refine brT ?_ | refine brF ?_)
    first | refine Exists.intro _ (And.intro (s1) ?_) | refine Hn_by (Exists.intro _ (And.intro (s1) ?_))
    first | refine Exists.intro _ (And.intro (s2) ?_) | refine Hn_by (Exists.intro _ (And.intro (s2) ?_))
    first | refine Exists.intro _ (And.intro (s3) ?_) | refine Hn_by (Exists.intro _ (And.intro (s3) ?_))
    repeat (first | refine gT ?_ | refine gF ?_ | refine brT ?_ | refine brF ?_)
    first | refine Exists.intro _ (And.intro (s4) ?_) | refine Hn_by (Exists.intro _ (And.intro (s4) ?_))
    first | refine Exists.intro _ (And.intro (s5) ?_) | refine Hn_by (Exists.intro _ (And.intro (s5) ?_))
    refine And.intro (by kernel_rfl) ?_
    repeat (first | refine gT ?_ | refine gF ?_ | refine brT ?_ | refine brF ?_ | refine And.intro rfl ?_)
    first | refine Exists.intro _ (And.intro (s6) ?_) | refine Hn_by (Exists.intro _ (And.intro (s6) ?_))
    repeat (first | refine gT ?_ | refine gF ?_ | refine brT ?_ | refine brF ?_ | refine And.intro rfl ?_)
    first | refine Exists.intro _ (And.intro (s7) ?_) | refine Hn_by (Exists.intro _ (And.intro (s7) ?_))
    repeat (first | refine gT ?_ | refine gF ?_ | refine brT ?_ | refine brF ?_ | refine And.intro rfl ?_)
    first | refine Exists.intro _ (And.intro (s8) ?_) | refine Hn_by (Exists.intro _ (And.intro (s8) ?_))
    repeat (first | refine gT ?_ | refine gF ?_ | refine brT ?_ | refine brF ?_ | refine And.intro rfl ?_)
    first | refine Exists.intro _ (And.intro (s9) ?_) | refine Hn_by (Exists.intro _ (And.intro (s9) ?_))
    repeat (first | refine gT ?_ | refine gF ?_ | refine brT ?_ | refine brF ?_ | refine And.intro rfl ?_)
    first | refine Exists.intro _ (And.intro (s10) ?_) | refine Hn_by (Exists.intro _ (And.intro (s10) ?_))
    repeat (first | refine gT ?_ | refine gF ?_ | refine brT ?_ | refine brF ?_ | refine And.intro rfl ?_)
    first | refine Exists.intro _ (And.intro (s11) ?_) | refine Hn_by (Exists.intro _ (And.intro (s11) ?_))
    repeat (first | refine gT ?_ | refine gF ?_ | refine brT ?_ | refine brF ?_ | refine And.intro rfl ?_)
    first | refine Exists.intro _ (And.intro (s12) ?_) | refine Hn_by (Exists.intro _ (And.intro (s12) ?_))
    repeat (first | refine gT ?_ | refine gF ?_ | refine brT ?_ | refine brF ?_ | refine And.intro rfl ?_)
    first | refine Exists.intro _ (And.intro (s13) ?_) | refine Hn_by (Exists.intro _ (And.intro (s13) ?_))
    repeat (first | refine gT ?_ | refine gF ?_ | refine brT ?_ | refine brF ?_ | refine And.intro rfl ?_)
    exact And.intro (Or.inr rfl) rfl

theorem roots_law (p1 p2 p3 p4 p5 i j : Int) (h1 : I64 p1) (h2 : I64 p2) (h3 : I64 p3) (h4 : I64 p4) (h5 : I64 p5) (hi : I64 i) (hj : I64 j) :
    Spec Tryz.prog [] 4 [par p1 p2 p3 p4 p5, .int .i64 i, .int .i64 j] (.bool true) := by
  obtain ⟨sa, va⟩ := made_ok h1 h2 h3 h4 h5
  generalize madeF p1 p2 p3 p4 p5 = a at sa va
  cases hz : meetsF a zeroB with
  | true =>
    have s3 : Spec Tryz.prog [] 17 [a.av] (.bool true) := hz ▸ zero_spec a
    exact roots_no _ i j a ⟨_, _, _, _, _, rfl⟩ sa (sqrt_no a hz) s3
  | false =>
    have s3 : Spec Tryz.prog [] 17 [a.av] (.bool false) := hz ▸ zero_spec a
    have nza := nz_of va hz
    obtain ⟨sb, vb, ib⟩ := within_ok va hi hj
    generalize withinF a i j = b at sb vb ib
    have nzb := nza.part ib
    have vs := root_vb va nza
    have vt := root_vb vb nzb
    have sv : Spec Tryz.prog [] 19 [(rootF a).av] (.bool true) := vs.ok ▸ valid_spec _ _ _ _ _
    have sn : Spec Tryz.prog [] 16 [(rootF b).av] (ngB (rootF b)).av := by
      have w := neg_spec (rootF b)
      rw [(neg_vb vt).1] at w
      exact w
    exact roots_yes _ i j a (rootF a) b (rootF b) _ _ _ _ _ ⟨_, _, _, _, _, rfl⟩ sa (sqrt_yes a va hz) s3 sb (sqrt_yes b vb (nz_zero vb nzb)) sv vs.1 (mul_spec _ _) (inside_by (root_sq va nza)) (mul_spec _ _) (inside_by (root_sq vb nzb))
      (meets_spec _ _) sn (meets_spec _ _) (roots_meet va vb ib nza)
end Ab
