import Derived.Test.YtbcgkonhkoopnaaGreatXOrder
import Derived.Test.YtbcgkonhkoopnaaGreatXMulBox
/-!
The law BoxIsotony.
-/
open Go Go.Proofs
namespace Ab
set_option maxRecDepth 100000
set_option maxHeartbeats 1000000

theorem isotony_walk (p q : AV) (i j k l : Int) (a b c d s1 s2 d1 d2 m1 m2 n1 n2 h1 h2 : Bx) (hp : ∃ p1 p2 p3 p4 p5, p = par p1 p2 p3 p4 p5) (hq : ∃ q1 q2 q3 q4 q5, q = par q1 q2 q3 q4 q5)
    (c1 : Spec Tryz.prog [] 12 [p] c.av) (c2 : Spec Tryz.prog [] 12 [q] d.av) (c3 : Spec Tryz.prog [] 18 [c.av, .int .i64 i, .int .i64 j] a.av) (c4 : Spec Tryz.prog [] 18 [d.av, .int .i64 k, .int .i64 l] b.av)
    (c5 : Spec Tryz.prog [] 20 [a.av, c.av] (.bool true)) (c6 : Spec Tryz.prog [] 20 [b.av, d.av] (.bool true)) (c7 : Spec Tryz.prog [] 19 [a.av] (.bool true))
    (e1 : Spec Tryz.prog [] 13 [a.av, b.av] s1.av) (e2 : Spec Tryz.prog [] 13 [c.av, d.av] s2.av) (e3 : Spec Tryz.prog [] 20 [s1.av, s2.av] (.bool true))
    (f1 : Spec Tryz.prog [] 27 [a.av, b.av] d1.av) (f2 : Spec Tryz.prog [] 27 [c.av, d.av] d2.av) (f3 : Spec Tryz.prog [] 20 [d1.av, d2.av] (.bool true))
    (g1 : Spec Tryz.prog [] 14 [a.av, b.av] m1.av) (g2 : Spec Tryz.prog [] 14 [c.av, d.av] m2.av) (g3 : Spec Tryz.prog [] 20 [m1.av, m2.av] (.bool true))
    (k1 : Spec Tryz.prog [] 16 [a.av] n1.av) (k2 : Spec Tryz.prog [] 16 [c.av] n2.av) (k3 : Spec Tryz.prog [] 20 [n1.av, n2.av] (.bool true))
    (l1 : Spec Tryz.prog [] 28 [a.av, b.av] h1.av) (l2 : Spec Tryz.prog [] 28 [c.av, d.av] h2.av) (l3 : Spec Tryz.prog [] 20 [h1.av, h2.av] (.bool true)) :
    Spec Tryz.prog [] 6 [p, q, .int .i64 i, .int .i64 j, .int .i64 k, .int .i64 l] (.bool true) := by
  obtain ⟨p1, p2, p3, p4, p5, rfl⟩ := hp
  obtain ⟨q1, q2, q3, q4, q5, rfl⟩ := hq
  obtain ⟨a1, a2, a3, a4, a5⟩ := a
  obtain ⟨b1, b2, b3, b4, b5⟩ := b
  obtain ⟨c1', c2', c3', c4', c5'⟩ := c
  obtain ⟨d1', d2', d3', d4', d5'⟩ := d
  obtain ⟨s11, s12, s13, s14, s15⟩ := s1
  obtain ⟨s21, s22, s23, s24, s25⟩ := s2
  obtain ⟨d11, d12, d13, d14, d15⟩ := d1
  obtain ⟨d21, d22, d23, d24, d25⟩ := d2
  obtain ⟨m11, m12, m13, m14, m15⟩ := m1
  obtain ⟨m21, m22, m23, m24, m25⟩ := m2
  obtain ⟨n11, n12, n13, n14, n15⟩ := n1
  obtain ⟨n21, n22, n23, n24, n25⟩ := n2
  obtain ⟨h11, h12, h13, h14, h15⟩ := h1
  obtain ⟨h21, h22, h23, h24, h25⟩ := h2
  refine spec_fn T_ok mixed_ok 1 Tryz.func6 fn_ok6 (by kernel_rfl) ?_
  first | refine Exists.intro _ (And.intro (sane_spec) ?_) | refine Hn_by (Exists.intro _ (And.intro (sane_spec) ?_))
  repeat (first | refine gT ?_ | refine gF ?_ | refine brT ?_ | refine brF ?_)
  first | refine Exists.intro _ (And.intro (c1) ?_) | refine Hn_by (Exists.intro _ (And.intro (c1) ?_))
  first | refine Exists.intro _ (And.intro (c2) ?_) | refine Hn_by (Exists.intro _ (And.intro (c2) ?_))
  first | refine Exists.intro _ (And.intro (c3) ?_) | refine Hn_by (Exists.intro _ (And.intro (c3) ?_))
  first | refine Exists.intro _ (And.intro (c4) ?_) | refine Hn_by (Exists.intro _ (And.intro (c4) ?_))
  first | refine Exists.intro _ (And.intro (c5) ?_) | refine Hn_by (Exists.intro _ (And.intro (c5) ?_))
  repeat (first | refine gT ?_ | refine gF ?_ | refine brT ?_ | refine brF ?_ | refine And.intro rfl ?_)
  first | refine Exists.intro _ (And.intro (c6) ?_) | refine Hn_by (Exists.intro _ (And.intro (c6) ?_))
  repeat (first | refine gT ?_ | refine gF ?_ | refine brT ?_ | refine brF ?_ | refine And.intro rfl ?_)
  first | refine Exists.intro _ (And.intro (c7) ?_) | refine Hn_by (Exists.intro _ (And.intro (c7) ?_))
  repeat (first | refine gT ?_ | refine gF ?_ | refine brT ?_ | refine brF ?_ | refine And.intro rfl ?_)
  first | refine Exists.intro _ (And.intro (e1) ?_) | refine Hn_by (Exists.intro _ (And.intro (e1) ?_))
  repeat (first | refine gT ?_ | refine gF ?_ | refine brT ?_ | refine brF ?_ | refine And.intro rfl ?_)
  first | refine Exists.intro _ (And.intro (e2) ?_) | refine Hn_by (Exists.intro _ (And.intro (e2) ?_))
  repeat (first | refine gT ?_ | refine gF ?_ | refine brT ?_ | refine brF ?_ | refine And.intro rfl ?_)
  first | refine Exists.intro _ (And.intro (e3) ?_) | refine Hn_by (Exists.intro _ (And.intro (e3) ?_))
  repeat (first | refine gT ?_ | refine gF ?_ | refine brT ?_ | refine brF ?_ | refine And.intro rfl ?_)
  first | refine Exists.intro _ (And.intro (f1) ?_) | refine Hn_by (Exists.intro _ (And.intro (f1) ?_))
  repeat (first | refine gT ?_ | refine gF ?_ | refine brT ?_ | refine brF ?_ | refine And.intro rfl ?_)
  first | refine Exists.intro _ (And.intro (f2) ?_) | refine Hn_by (Exists.intro _ (And.intro (f2) ?_))
  repeat (first | refine gT ?_ | refine gF ?_ | refine brT ?_ | refine brF ?_ | refine And.intro rfl ?_)
  first | refine Exists.intro _ (And.intro (f3) ?_) | refine Hn_by (Exists.intro _ (And.intro (f3) ?_))
  repeat (first | refine gT ?_ | refine gF ?_ | refine brT ?_ | refine brF ?_ | refine And.intro rfl ?_)
  first | refine Exists.intro _ (And.intro (g1) ?_) | refine Hn_by (Exists.intro _ (And.intro (g1) ?_))
  repeat (first | refine gT ?_ | refine gF ?_ | refine brT ?_ | refine brF ?_ | refine And.intro rfl ?_)
  first | refine Exists.intro _ (And.intro (g2) ?_) | refine Hn_by (Exists.intro _ (And.intro (g2) ?_))
  repeat (first | refine gT ?_ | refine gF ?_ | refine brT ?_ | refine brF ?_ | refine And.intro rfl ?_)
  first | refine Exists.intro _ (And.intro (g3) ?_) | refine Hn_by (Exists.intro _ (And.intro (g3) ?_))
  repeat (first | refine gT ?_ | refine gF ?_ | refine brT ?_ | refine brF ?_ | refine And.intro rfl ?_)
  first | refine Exists.intro _ (And.intro (k1) ?_) | refine Hn_by (Exists.intro _ (And.intro (k1) ?_))
  repeat (first | refine gT ?_ | refine gF ?_ | refine brT ?_ | refine brF ?_ | refine And.intro rfl ?_)
  first | refine Exists.intro _ (And.intro (k2) ?_) | refine Hn_by (Exists.intro _ (And.intro (k2) ?_))
  repeat (first | refine gT ?_ | refine gF ?_ | refine brT ?_ | refine brF ?_ | refine And.intro rfl ?_)
  first | refine Exists.intro _ (And.intro (k3) ?_) | refine Hn_by (Exists.intro _ (And.intro (k3) ?_))
  repeat (first | refine gT ?_ | refine gF ?_ | refine brT ?_ | refine brF ?_ | refine And.intro rfl ?_)
  first | refine Exists.intro _ (And.intro (l1) ?_) | refine Hn_by (Exists.intro _ (And.intro (l1) ?_))
  repeat (first | refine gT ?_ | refine gF ?_ | refine brT ?_ | refine brF ?_ | refine And.intro rfl ?_)
  first | refine Exists.intro _ (And.intro (l2) ?_) | refine Hn_by (Exists.intro _ (And.intro (l2) ?_))
  repeat (first | refine gT ?_ | refine gF ?_ | refine brT ?_ | refine brF ?_ | refine And.intro rfl ?_)
  first | refine Exists.intro _ (And.intro (l3) ?_) | refine Hn_by (Exists.intro _ (And.intro (l3) ?_))
  repeat (first | refine gT ?_ | refine gF ?_ | refine brT ?_ | refine brF ?_ | refine And.intro rfl ?_)
  exact And.intro (Or.inr rfl) rfl

theorem isotony_law (p1 p2 p3 p4 p5 q1 q2 q3 q4 q5 i j k l : Int) (h1 : I64 p1) (h2 : I64 p2) (h3 : I64 p3) (h4 : I64 p4) (h5 : I64 p5) (k1 : I64 q1) (k2 : I64 q2) (k3 : I64 q3) (k4 : I64 q4) (k5 : I64 q5) (hi : I64 i) (hj : I64 j) (hk : I64 k) (hl : I64 l) :
    Spec Tryz.prog [] 6 [par p1 p2 p3 p4 p5, par q1 q2 q3 q4 q5, .int .i64 i, .int .i64 j, .int .i64 k, .int .i64 l] (.bool true) := by
  obtain ⟨sc, vc⟩ := made_ok h1 h2 h3 h4 h5
  obtain ⟨sd, vd⟩ := made_ok k1 k2 k3 k4 k5
  generalize madeF p1 p2 p3 p4 p5 = c at sc vc
  generalize madeF q1 q2 q3 q4 q5 = d at sd vd
  obtain ⟨sa, va, ia⟩ := within_ok vc hi hj
  generalize withinF c i j = a at sa va ia
  obtain ⟨sb, vb, ib⟩ := within_ok vd hk hl
  generalize withinF d k l = b at sb vb ib
  have sv : Spec Tryz.prog [] 19 [a.av] (.bool true) := va.ok ▸ valid_spec a.a a.b a.c a.d a.w
  exact isotony_walk _ _ i j k l a b c d _ _ _ _ _ _ _ _ _ _ ⟨_, _, _, _, _, rfl⟩ ⟨_, _, _, _, _, rfl⟩ sc sd sa sb (inside_by (inside_of va vc ia)) (inside_by (inside_of vb vd ib)) sv
    (add_spec a b) (add_spec c d) (inside_by (add_iso va vb vc vd ia ib)) (sub_spec a b) (sub_spec c d) (inside_by (sub_iso va vb vc vd ia ib)) (mul_spec a b) (mul_spec c d) (inside_by (mul_iso va vb vc vd ia ib))
    (neg_spec a) (neg_spec c) (inside_by (neg_iso va vc ia)) (hull_spec a b) (hull_spec c d) (inside_by (hull_iso va vb vc vd ia ib))
end Ab
