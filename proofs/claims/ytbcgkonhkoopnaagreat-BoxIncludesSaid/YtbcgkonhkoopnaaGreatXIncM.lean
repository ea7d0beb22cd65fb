import Derived.Test.YtbcgkonhkoopnaaGreatXIncL
/-!
The law BoxIncludes: the walk and the plain law.
-/
open Go Go.Proofs
namespace Ab
set_option maxRecDepth 100000
set_option maxHeartbeats 2000000

theorem inc_walk (p q : AV) (i j k l x y u v : Int) (a b s d m n : Bx) (e f : AV) (hp : ∃ p1 p2 p3 p4 p5, p = par p1 p2 p3 p4 p5) (hq : ∃ q1 q2 q3 q4 q5, q = par q1 q2 q3 q4 q5) (s1 : Spec Tryz.prog [] 12 [p] a.av) (s2 : Spec Tryz.prog [] 12 [q] b.av)
    (s3 : Spec Tryz.prog [] 39 [.int .i64 a.a, .int .i64 a.b, .int .i64 i] (.int .i64 x)) (s4 : Spec Tryz.prog [] 39 [.int .i64 a.c, .int .i64 a.d, .int .i64 j] (.int .i64 y))
    (s5 : Spec Tryz.prog [] 39 [.int .i64 b.a, .int .i64 b.b, .int .i64 k] (.int .i64 u)) (s6 : Spec Tryz.prog [] 39 [.int .i64 b.c, .int .i64 b.d, .int .i64 l] (.int .i64 v))
    (s7 : Spec Tryz.prog [] 13 [a.av, b.av] s.av) (s8 : Spec Tryz.prog [] 27 [a.av, b.av] d.av) (s9 : Spec Tryz.prog [] 14 [a.av, b.av] m.av) (s10 : Spec Tryz.prog [] 16 [a.av] n.av)
    (hs : s.w = false → ¬ w64 (x + u) < s.a ∧ ¬ w64 (x + u) > s.b ∧ ¬ w64 (y + v) < s.c ∧ ¬ w64 (y + v) > s.d)
    (hd : d.w = false → ¬ w64 (x - u) < d.a ∧ ¬ w64 (x - u) > d.b ∧ ¬ w64 (y - v) < d.c ∧ ¬ w64 (y - v) > d.d)
    (hn : n.w = false ∧ ¬ w64 (0 - x) < n.a ∧ ¬ w64 (0 - x) > n.b ∧ ¬ w64 (0 - y) < n.c ∧ ¬ w64 (0 - y) > n.d)
    (s11 : Spec Tryz.prog [] 41 [.int .i64 x, .int .i64 u, .int .i64 y, .int .i64 v, .bool true] e) (s12 : m.w = false → Spec Tryz.prog [] 40 [e, .int .i64 m.a, .int .i64 m.b] (.bool true))
    (s13 : Spec Tryz.prog [] 41 [.int .i64 x, .int .i64 v, .int .i64 y, .int .i64 u, .bool false] f) (s14 : m.w = false → Spec Tryz.prog [] 40 [f, .int .i64 m.c, .int .i64 m.d] (.bool true)) (he : ∃ ng ll, e = mkI ng ll) (hf : ∃ ng ll, f = mkI ng ll) :
    Spec Tryz.prog [] 10 [p, q, .int .i64 i, .int .i64 j, .int .i64 k, .int .i64 l] (.bool true) := by
  obtain ⟨p1, p2, p3, p4, p5, rfl⟩ := hp
  obtain ⟨q1, q2, q3, q4, q5, rfl⟩ := hq
  obtain ⟨en, el, rfl⟩ := he
  obtain ⟨fn, fl, rfl⟩ := hf
  obtain ⟨aa, ab, ac, ad, aw⟩ := a
  obtain ⟨ba, bb, bc, bd, bw⟩ := b
  obtain ⟨sa, sb, sc, sd, sw⟩ := s
  obtain ⟨da, db, dc, dd, dw⟩ := d
  obtain ⟨ma, mb, mc, md, mw⟩ := m
  obtain ⟨na, nb, nc, nd, nw⟩ := n
  obtain ⟨h0, n1, n2, n3, n4⟩ := hn
  simp only at h0
  subst h0
  cases sw with
  | true =>
    cases dw with
    | true =>
      cases mw with
      | true =>
        refine spec_fn T_ok mixed_ok 1 Tryz.func10 fn_ok10 (by kernel_rfl) ?_
        first | refine Exists.intro _ (And.intro (sane_spec) ?_) | refine Hn_by (Exists.intro _ (And.intro (sane_spec) ?_))
        repeat (first | refine gT ?_ | refine gF ?_ | refine brT ?_ | refine brF ?_)
        first | refine Exists.intro _ (And.intro (s1) ?_) | refine Hn_by (Exists.intro _ (And.intro (s1) ?_))
        first | refine Exists.intro _ (And.intro (s2) ?_) | refine Hn_by (Exists.intro _ (And.intro (s2) ?_))
        first | refine Exists.intro _ (And.intro (s3) ?_) | refine Hn_by (Exists.intro _ (And.intro (s3) ?_))
        first | refine Exists.intro _ (And.intro (s4) ?_) | refine Hn_by (Exists.intro _ (And.intro (s4) ?_))
        first | refine Exists.intro _ (And.intro (s5) ?_) | refine Hn_by (Exists.intro _ (And.intro (s5) ?_))
        first | refine Exists.intro _ (And.intro (s6) ?_) | refine Hn_by (Exists.intro _ (And.intro (s6) ?_))
        first | refine Exists.intro _ (And.intro (s7) ?_) | refine Hn_by (Exists.intro _ (And.intro (s7) ?_))
        first | refine Exists.intro _ (And.intro (s8) ?_) | refine Hn_by (Exists.intro _ (And.intro (s8) ?_))
        first | refine Exists.intro _ (And.intro (s9) ?_) | refine Hn_by (Exists.intro _ (And.intro (s9) ?_))
        first | refine Exists.intro _ (And.intro (s10) ?_) | refine Hn_by (Exists.intro _ (And.intro (s10) ?_))
        repeat (first | refine gT ?_ | refine gF ?_ | refine brT ?_ | refine brF ?_ | refine And.intro rfl ?_)
        refine onF ?_ ?_
        · exact decide_eq_false n1
        repeat (first | refine gT ?_ | refine gF ?_ | refine brT ?_ | refine brF ?_ | refine And.intro rfl ?_)
        refine onF ?_ ?_
        · exact decide_eq_false n2
        repeat (first | refine gT ?_ | refine gF ?_ | refine brT ?_ | refine brF ?_ | refine And.intro rfl ?_)
        refine onF ?_ ?_
        · exact decide_eq_false n3
        repeat (first | refine gT ?_ | refine gF ?_ | refine brT ?_ | refine brF ?_ | refine And.intro rfl ?_)
        refine offT ?_ ?_
        · exact decide_eq_false n4
        refine And.intro (by kernel_rfl) ?_
        repeat (first | refine gT ?_ | refine gF ?_ | refine brT ?_ | refine brF ?_ | refine And.intro rfl ?_)
        exact And.intro (Or.inr rfl) rfl
      | false =>
        refine spec_fn T_ok mixed_ok 1 Tryz.func10 fn_ok10 (by kernel_rfl) ?_
        first | refine Exists.intro _ (And.intro (sane_spec) ?_) | refine Hn_by (Exists.intro _ (And.intro (sane_spec) ?_))
        repeat (first | refine gT ?_ | refine gF ?_ | refine brT ?_ | refine brF ?_)
        first | refine Exists.intro _ (And.intro (s1) ?_) | refine Hn_by (Exists.intro _ (And.intro (s1) ?_))
        first | refine Exists.intro _ (And.intro (s2) ?_) | refine Hn_by (Exists.intro _ (And.intro (s2) ?_))
        first | refine Exists.intro _ (And.intro (s3) ?_) | refine Hn_by (Exists.intro _ (And.intro (s3) ?_))
        first | refine Exists.intro _ (And.intro (s4) ?_) | refine Hn_by (Exists.intro _ (And.intro (s4) ?_))
        first | refine Exists.intro _ (And.intro (s5) ?_) | refine Hn_by (Exists.intro _ (And.intro (s5) ?_))
        first | refine Exists.intro _ (And.intro (s6) ?_) | refine Hn_by (Exists.intro _ (And.intro (s6) ?_))
        first | refine Exists.intro _ (And.intro (s7) ?_) | refine Hn_by (Exists.intro _ (And.intro (s7) ?_))
        first | refine Exists.intro _ (And.intro (s8) ?_) | refine Hn_by (Exists.intro _ (And.intro (s8) ?_))
        first | refine Exists.intro _ (And.intro (s9) ?_) | refine Hn_by (Exists.intro _ (And.intro (s9) ?_))
        first | refine Exists.intro _ (And.intro (s10) ?_) | refine Hn_by (Exists.intro _ (And.intro (s10) ?_))
        repeat (first | refine gT ?_ | refine gF ?_ | refine brT ?_ | refine brF ?_ | refine And.intro rfl ?_)
        refine onF ?_ ?_
        · exact decide_eq_false n1
        repeat (first | refine gT ?_ | refine gF ?_ | refine brT ?_ | refine brF ?_ | refine And.intro rfl ?_)
        refine onF ?_ ?_
        · exact decide_eq_false n2
        repeat (first | refine gT ?_ | refine gF ?_ | refine brT ?_ | refine brF ?_ | refine And.intro rfl ?_)
        refine onF ?_ ?_
        · exact decide_eq_false n3
        repeat (first | refine gT ?_ | refine gF ?_ | refine brT ?_ | refine brF ?_ | refine And.intro rfl ?_)
        refine offT ?_ ?_
        · exact decide_eq_false n4
        refine And.intro (by kernel_rfl) ?_
        repeat (first | refine gT ?_ | refine gF ?_ | refine brT ?_ | refine brF ?_ | refine And.intro rfl ?_)
        first | refine Exists.intro _ (And.intro (s11) ?_) | refine Hn_by (Exists.intro _ (And.intro (s11) ?_))
        repeat (first | refine gT ?_ | refine gF ?_ | refine brT ?_ | refine brF ?_ | refine And.intro rfl ?_)
        first | refine Exists.intro _ (And.intro (s12 rfl) ?_) | refine Hn_by (Exists.intro _ (And.intro (s12 rfl) ?_))
        repeat (first | refine gT ?_ | refine gF ?_ | refine brT ?_ | refine brF ?_ | refine And.intro rfl ?_)
        first | refine Exists.intro _ (And.intro (s13) ?_) | refine Hn_by (Exists.intro _ (And.intro (s13) ?_))
        repeat (first | refine gT ?_ | refine gF ?_ | refine brT ?_ | refine brF ?_ | refine And.intro rfl ?_)
        first | refine Exists.intro _ (And.intro (s14 rfl) ?_) | refine Hn_by (Exists.intro _ (And.intro (s14 rfl) ?_))
        repeat (first | refine gT ?_ | refine gF ?_ | refine brT ?_ | refine brF ?_ | refine And.intro rfl ?_)
        exact And.intro (Or.inr rfl) rfl
    | false =>
      obtain ⟨D1, D2, D3, D4⟩ := hd rfl
      cases mw with
      | true =>
        refine spec_fn T_ok mixed_ok 1 Tryz.func10 fn_ok10 (by kernel_rfl) ?_
        first | refine Exists.intro _ (And.intro (sane_spec) ?_) | refine Hn_by (Exists.intro _ (And.intro (sane_spec) ?_))
        repeat (first | refine gT ?_ | refine gF ?_ | refine brT ?_ | refine brF ?_)
        first | refine Exists.intro _ (And.intro (s1) ?_) | refine Hn_by (Exists.intro _ (And.intro (s1) ?_))
        first | refine Exists.intro _ (And.intro (s2) ?_) | refine Hn_by (Exists.intro _ (And.intro (s2) ?_))
        first | refine Exists.intro _ (And.intro (s3) ?_) | refine Hn_by (Exists.intro _ (And.intro (s3) ?_))
        first | refine Exists.intro _ (And.intro (s4) ?_) | refine Hn_by (Exists.intro _ (And.intro (s4) ?_))
        first | refine Exists.intro _ (And.intro (s5) ?_) | refine Hn_by (Exists.intro _ (And.intro (s5) ?_))
        first | refine Exists.intro _ (And.intro (s6) ?_) | refine Hn_by (Exists.intro _ (And.intro (s6) ?_))
        first | refine Exists.intro _ (And.intro (s7) ?_) | refine Hn_by (Exists.intro _ (And.intro (s7) ?_))
        first | refine Exists.intro _ (And.intro (s8) ?_) | refine Hn_by (Exists.intro _ (And.intro (s8) ?_))
        first | refine Exists.intro _ (And.intro (s9) ?_) | refine Hn_by (Exists.intro _ (And.intro (s9) ?_))
        first | refine Exists.intro _ (And.intro (s10) ?_) | refine Hn_by (Exists.intro _ (And.intro (s10) ?_))
        repeat (first | refine gT ?_ | refine gF ?_ | refine brT ?_ | refine brF ?_ | refine And.intro rfl ?_)
        refine onF ?_ ?_
        · exact decide_eq_false D1
        repeat (first | refine gT ?_ | refine gF ?_ | refine brT ?_ | refine brF ?_ | refine And.intro rfl ?_)
        refine onF ?_ ?_
        · exact decide_eq_false D2
        repeat (first | refine gT ?_ | refine gF ?_ | refine brT ?_ | refine brF ?_ | refine And.intro rfl ?_)
        refine onF ?_ ?_
        · exact decide_eq_false D3
        repeat (first | refine gT ?_ | refine gF ?_ | refine brT ?_ | refine brF ?_ | refine And.intro rfl ?_)
        refine offT ?_ ?_
        · exact decide_eq_false D4
        repeat (first | refine gT ?_ | refine gF ?_ | refine brT ?_ | refine brF ?_ | refine And.intro rfl ?_)
        refine onF ?_ ?_
        · exact decide_eq_false n1
        repeat (first | refine gT ?_ | refine gF ?_ | refine brT ?_ | refine brF ?_ | refine And.intro rfl ?_)
        refine onF ?_ ?_
        · exact decide_eq_false n2
        repeat (first | refine gT ?_ | refine gF ?_ | refine brT ?_ | refine brF ?_ | refine And.intro rfl ?_)
        refine onF ?_ ?_
        · exact decide_eq_false n3
        repeat (first | refine gT ?_ | refine gF ?_ | refine brT ?_ | refine brF ?_ | refine And.intro rfl ?_)
        refine offT ?_ ?_
        · exact decide_eq_false n4
        refine And.intro (by kernel_rfl) ?_
        repeat (first | refine gT ?_ | refine gF ?_ | refine brT ?_ | refine brF ?_ | refine And.intro rfl ?_)
        exact And.intro (Or.inr rfl) rfl
      | false =>
        refine spec_fn T_ok mixed_ok 1 Tryz.func10 fn_ok10 (by kernel_rfl) ?_
        first | refine Exists.intro _ (And.intro (sane_spec) ?_) | refine Hn_by (Exists.intro _ (And.intro (sane_spec) ?_))
        repeat (first | refine gT ?_ | refine gF ?_ | refine brT ?_ | refine brF ?_)
        first | refine Exists.intro _ (And.intro (s1) ?_) | refine Hn_by (Exists.intro _ (And.intro (s1) ?_))
        first | refine Exists.intro _ (And.intro (s2) ?_) | refine Hn_by (Exists.intro _ (And.intro (s2) ?_))
        first | refine Exists.intro _ (And.intro (s3) ?_) | refine Hn_by (Exists.intro _ (And.intro (s3) ?_))
        first | refine Exists.intro _ (And.intro (s4) ?_) | refine Hn_by (Exists.intro _ (And.intro (s4) ?_))
        first | refine Exists.intro _ (And.intro (s5) ?_) | refine Hn_by (Exists.intro _ (And.intro (s5) ?_))
        first | refine Exists.intro _ (And.intro (s6) ?_) | refine Hn_by (Exists.intro _ (And.intro (s6) ?_))
        first | refine Exists.intro _ (And.intro (s7) ?_) | refine Hn_by (Exists.intro _ (And.intro (s7) ?_))
        first | refine Exists.intro _ (And.intro (s8) ?_) | refine Hn_by (Exists.intro _ (And.intro (s8) ?_))
        first | refine Exists.intro _ (And.intro (s9) ?_) | refine Hn_by (Exists.intro _ (And.intro (s9) ?_))
        first | refine Exists.intro _ (And.intro (s10) ?_) | refine Hn_by (Exists.intro _ (And.intro (s10) ?_))
        repeat (first | refine gT ?_ | refine gF ?_ | refine brT ?_ | refine brF ?_ | refine And.intro rfl ?_)
        refine onF ?_ ?_
        · exact decide_eq_false D1
        repeat (first | refine gT ?_ | refine gF ?_ | refine brT ?_ | refine brF ?_ | refine And.intro rfl ?_)
        refine onF ?_ ?_
        · exact decide_eq_false D2
        repeat (first | refine gT ?_ | refine gF ?_ | refine brT ?_ | refine brF ?_ | refine And.intro rfl ?_)
        refine onF ?_ ?_
        · exact decide_eq_false D3
        repeat (first | refine gT ?_ | refine gF ?_ | refine brT ?_ | refine brF ?_ | refine And.intro rfl ?_)
        refine offT ?_ ?_
        · exact decide_eq_false D4
        repeat (first | refine gT ?_ | refine gF ?_ | refine brT ?_ | refine brF ?_ | refine And.intro rfl ?_)
        refine onF ?_ ?_
        · exact decide_eq_false n1
        repeat (first | refine gT ?_ | refine gF ?_ | refine brT ?_ | refine brF ?_ | refine And.intro rfl ?_)
        refine onF ?_ ?_
        · exact decide_eq_false n2
        repeat (first | refine gT ?_ | refine gF ?_ | refine brT ?_ | refine brF ?_ | refine And.intro rfl ?_)
        refine onF ?_ ?_
        · exact decide_eq_false n3
        repeat (first | refine gT ?_ | refine gF ?_ | refine brT ?_ | refine brF ?_ | refine And.intro rfl ?_)
        refine offT ?_ ?_
        · exact decide_eq_false n4
        refine And.intro (by kernel_rfl) ?_
        repeat (first | refine gT ?_ | refine gF ?_ | refine brT ?_ | refine brF ?_ | refine And.intro rfl ?_)
        first | refine Exists.intro _ (And.intro (s11) ?_) | refine Hn_by (Exists.intro _ (And.intro (s11) ?_))
        repeat (first | refine gT ?_ | refine gF ?_ | refine brT ?_ | refine brF ?_ | refine And.intro rfl ?_)
        first | refine Exists.intro _ (And.intro (s12 rfl) ?_) | refine Hn_by (Exists.intro _ (And.intro (s12 rfl) ?_))
        repeat (first | refine gT ?_ | refine gF ?_ | refine brT ?_ | refine brF ?_ | refine And.intro rfl ?_)
        first | refine Exists.intro _ (And.intro (s13) ?_) | refine Hn_by (Exists.intro _ (And.intro (s13) ?_))
        repeat (first | refine gT ?_ | refine gF ?_ | refine brT ?_ | refine brF ?_ | refine And.intro rfl ?_)
        first | refine Exists.intro _ (And.intro (s14 rfl) ?_) | refine Hn_by (Exists.intro _ (And.intro (s14 rfl) ?_))
        repeat (first | refine gT ?_ | refine gF ?_ | refine brT ?_ | refine brF ?_ | refine And.intro rfl ?_)
        exact And.intro (Or.inr rfl) rfl
  | false =>
    obtain ⟨S1, S2, S3, S4⟩ := hs rfl
    cases dw with
    | true =>
      cases mw with
      | true =>
        refine spec_fn T_ok mixed_ok 1 Tryz.func10 fn_ok10 (by kernel_rfl) ?_
        first | refine Exists.intro _ (And.intro (sane_spec) ?_) | refine Hn_by (Exists.intro _ (And.intro (sane_spec) ?_))
        repeat (first | refine gT ?_ | refine gF ?_ | refine brT ?_ | refine brF ?_)
        first | refine Exists.intro _ (And.intro (s1) ?_) | refine Hn_by (Exists.intro _ (And.intro (s1) ?_))
        first | refine Exists.intro _ (And.intro (s2) ?_) | refine Hn_by (Exists.intro _ (And.intro (s2) ?_))
        first | refine Exists.intro _ (And.intro (s3) ?_) | refine Hn_by (Exists.intro _ (And.intro (s3) ?_))
        first | refine Exists.intro _ (And.intro (s4) ?_) | refine Hn_by (Exists.intro _ (And.intro (s4) ?_))
        first | refine Exists.intro _ (And.intro (s5) ?_) | refine Hn_by (Exists.intro _ (And.intro (s5) ?_))
        first | refine Exists.intro _ (And.intro (s6) ?_) | refine Hn_by (Exists.intro _ (And.intro (s6) ?_))
        first | refine Exists.intro _ (And.intro (s7) ?_) | refine Hn_by (Exists.intro _ (And.intro (s7) ?_))
        first | refine Exists.intro _ (And.intro (s8) ?_) | refine Hn_by (Exists.intro _ (And.intro (s8) ?_))
        first | refine Exists.intro _ (And.intro (s9) ?_) | refine Hn_by (Exists.intro _ (And.intro (s9) ?_))
        first | refine Exists.intro _ (And.intro (s10) ?_) | refine Hn_by (Exists.intro _ (And.intro (s10) ?_))
        repeat (first | refine gT ?_ | refine gF ?_ | refine brT ?_ | refine brF ?_ | refine And.intro rfl ?_)
        refine onF ?_ ?_
        · exact decide_eq_false S1
        repeat (first | refine gT ?_ | refine gF ?_ | refine brT ?_ | refine brF ?_ | refine And.intro rfl ?_)
        refine onF ?_ ?_
        · exact decide_eq_false S2
        repeat (first | refine gT ?_ | refine gF ?_ | refine brT ?_ | refine brF ?_ | refine And.intro rfl ?_)
        refine onF ?_ ?_
        · exact decide_eq_false S3
        repeat (first | refine gT ?_ | refine gF ?_ | refine brT ?_ | refine brF ?_ | refine And.intro rfl ?_)
        refine onF ?_ ?_
        · exact decide_eq_false S4
        repeat (first | refine gT ?_ | refine gF ?_ | refine brT ?_ | refine brF ?_ | refine And.intro rfl ?_)
        refine onF ?_ ?_
        · exact decide_eq_false n1
        repeat (first | refine gT ?_ | refine gF ?_ | refine brT ?_ | refine brF ?_ | refine And.intro rfl ?_)
        refine onF ?_ ?_
        · exact decide_eq_false n2
        repeat (first | refine gT ?_ | refine gF ?_ | refine brT ?_ | refine brF ?_ | refine And.intro rfl ?_)
        refine onF ?_ ?_
        · exact decide_eq_false n3
        repeat (first | refine gT ?_ | refine gF ?_ | refine brT ?_ | refine brF ?_ | refine And.intro rfl ?_)
        refine offT ?_ ?_
        · exact decide_eq_false n4
        refine And.intro (by kernel_rfl) ?_
        repeat (first | refine gT ?_ | refine gF ?_ | refine brT ?_ | refine brF ?_ | refine And.intro rfl ?_)
        exact And.intro (Or.inr rfl) rfl
      | false =>
        refine spec_fn T_ok mixed_ok 1 Tryz.func10 fn_ok10 (by kernel_rfl) ?_
        first | refine Exists.intro _ (And.intro (sane_spec) ?_) | refine Hn_by (Exists.intro _ (And.intro (sane_spec) ?_))
        repeat (first | refine gT ?_ | refine gF ?_ | refine brT ?_ | refine brF ?_)
        first | refine Exists.intro _ (And.intro (s1) ?_) | refine Hn_by (Exists.intro _ (And.intro (s1) ?_))
        first | refine Exists.intro _ (And.intro (s2) ?_) | refine Hn_by (Exists.intro _ (And.intro (s2) ?_))
        first | refine Exists.intro _ (And.intro (s3) ?_) | refine Hn_by (Exists.intro _ (And.intro (s3) ?_))
        first | refine Exists.intro _ (And.intro (s4) ?_) | refine Hn_by (Exists.intro _ (And.intro (s4) ?_))
        first | refine Exists.intro _ (And.intro (s5) ?_) | refine Hn_by (Exists.intro _ (And.intro (s5) ?_))
        first | refine Exists.intro _ (And.intro (s6) ?_) | refine Hn_by (Exists.intro _ (And.intro (s6) ?_))
        first | refine Exists.intro _ (And.intro (s7) ?_) | refine Hn_by (Exists.intro _ (And.intro (s7) ?_))
        first | refine Exists.intro _ (And.intro (s8) ?_) | refine Hn_by (Exists.intro _ (And.intro (s8) ?_))
        first | refine Exists.intro _ (And.intro (s9) ?_) | refine Hn_by (Exists.intro _ (And.intro (s9) ?_))
        first | refine Exists.intro _ (And.intro (s10) ?_) | refine Hn_by (Exists.intro _ (And.intro (s10) ?_))
        repeat (first | refine gT ?_ | refine gF ?_ | refine brT ?_ | refine brF ?_ | refine And.intro rfl ?_)
        refine onF ?_ ?_
        · exact decide_eq_false S1
        repeat (first | refine gT ?_ | refine gF ?_ | refine brT ?_ | refine brF ?_ | refine And.intro rfl ?_)
        refine onF ?_ ?_
        · exact decide_eq_false S2
        repeat (first | refine gT ?_ | refine gF ?_ | refine brT ?_ | refine brF ?_ | refine And.intro rfl ?_)
        refine onF ?_ ?_
        · exact decide_eq_false S3
        repeat (first | refine gT ?_ | refine gF ?_ | refine brT ?_ | refine brF ?_ | refine And.intro rfl ?_)
        refine onF ?_ ?_
        · exact decide_eq_false S4
        repeat (first | refine gT ?_ | refine gF ?_ | refine brT ?_ | refine brF ?_ | refine And.intro rfl ?_)
        refine onF ?_ ?_
        · exact decide_eq_false n1
        repeat (first | refine gT ?_ | refine gF ?_ | refine brT ?_ | refine brF ?_ | refine And.intro rfl ?_)
        refine onF ?_ ?_
        · exact decide_eq_false n2
        repeat (first | refine gT ?_ | refine gF ?_ | refine brT ?_ | refine brF ?_ | refine And.intro rfl ?_)
        refine onF ?_ ?_
        · exact decide_eq_false n3
        repeat (first | refine gT ?_ | refine gF ?_ | refine brT ?_ | refine brF ?_ | refine And.intro rfl ?_)
        refine offT ?_ ?_
        · exact decide_eq_false n4
        refine And.intro (by kernel_rfl) ?_
        repeat (first | refine gT ?_ | refine gF ?_ | refine brT ?_ | refine brF ?_ | refine And.intro rfl ?_)
        first | refine Exists.intro _ (And.intro (s11) ?_) | refine Hn_by (Exists.intro _ (And.intro (s11) ?_))
        repeat (first | refine gT ?_ | refine gF ?_ | refine brT ?_ | refine brF ?_ | refine And.intro rfl ?_)
        first | refine Exists.intro _ (And.intro (s12 rfl) ?_) | refine Hn_by (Exists.intro _ (And.intro (s12 rfl) ?_))
        repeat (first | refine gT ?_ | refine gF ?_ | refine brT ?_ | refine brF ?_ | refine And.intro rfl ?_)
        first | refine Exists.intro _ (And.intro (s13) ?_) | refine Hn_by (Exists.intro _ (And.intro (s13) ?_))
        repeat (first | refine gT ?_ | refine gF ?_ | refine brT ?_ | refine brF ?_ | refine And.intro rfl ?_)
        first | refine Exists.intro _ (And.intro (s14 rfl) ?_) | refine Hn_by (Exists.intro _ (And.intro (s14 rfl) ?_))
        repeat (first | refine gT ?_ | refine gF ?_ | refine brT ?_ | refine brF ?_ | refine And.intro rfl ?_)
        exact And.intro (Or.inr rfl) rfl
    | false =>
      obtain ⟨D1, D2, D3, D4⟩ := hd rfl
      cases mw with
      | true =>
        refine spec_fn T_ok mixed_ok 1 Tryz.func10 fn_ok10 (by kernel_rfl) ?_
        first | refine Exists.intro _ (And.intro (sane_spec) ?_) | refine Hn_by (Exists.intro _ (And.intro (sane_spec) ?_))
        repeat (first | refine gT ?_ | refine gF ?_ | refine brT ?_ | refine brF ?_)
        first | refine Exists.intro _ (And.intro (s1) ?_) | refine Hn_by (Exists.intro _ (And.intro (s1) ?_))
        first | refine Exists.intro _ (And.intro (s2) ?_) | refine Hn_by (Exists.intro _ (And.intro (s2) ?_))
        first | refine Exists.intro _ (And.intro (s3) ?_) | refine Hn_by (Exists.intro _ (And.intro (s3) ?_))
        first | refine Exists.intro _ (And.intro (s4) ?_) | refine Hn_by (Exists.intro _ (And.intro (s4) ?_))
        first | refine Exists.intro _ (And.intro (s5) ?_) | refine Hn_by (Exists.intro _ (And.intro (s5) ?_))
        first | refine Exists.intro _ (And.intro (s6) ?_) | refine Hn_by (Exists.intro _ (And.intro (s6) ?_))
        first | refine Exists.intro _ (And.intro (s7) ?_) | refine Hn_by (Exists.intro _ (And.intro (s7) ?_))
        first | refine Exists.intro _ (And.intro (s8) ?_) | refine Hn_by (Exists.intro _ (And.intro (s8) ?_))
        first | refine Exists.intro _ (And.intro (s9) ?_) | refine Hn_by (Exists.intro _ (And.intro (s9) ?_))
        first | refine Exists.intro _ (And.intro (s10) ?_) | refine Hn_by (Exists.intro _ (And.intro (s10) ?_))
        repeat (first | refine gT ?_ | refine gF ?_ | refine brT ?_ | refine brF ?_ | refine And.intro rfl ?_)
        refine onF ?_ ?_
        · exact decide_eq_false S1
        repeat (first | refine gT ?_ | refine gF ?_ | refine brT ?_ | refine brF ?_ | refine And.intro rfl ?_)
        refine onF ?_ ?_
        · exact decide_eq_false S2
        repeat (first | refine gT ?_ | refine gF ?_ | refine brT ?_ | refine brF ?_ | refine And.intro rfl ?_)
        refine onF ?_ ?_
        · exact decide_eq_false S3
        repeat (first | refine gT ?_ | refine gF ?_ | refine brT ?_ | refine brF ?_ | refine And.intro rfl ?_)
        refine onF ?_ ?_
        · exact decide_eq_false S4
        repeat (first | refine gT ?_ | refine gF ?_ | refine brT ?_ | refine brF ?_ | refine And.intro rfl ?_)
        refine onF ?_ ?_
        · exact decide_eq_false D1
        repeat (first | refine gT ?_ | refine gF ?_ | refine brT ?_ | refine brF ?_ | refine And.intro rfl ?_)
        refine onF ?_ ?_
        · exact decide_eq_false D2
        repeat (first | refine gT ?_ | refine gF ?_ | refine brT ?_ | refine brF ?_ | refine And.intro rfl ?_)
        refine onF ?_ ?_
        · exact decide_eq_false D3
        repeat (first | refine gT ?_ | refine gF ?_ | refine brT ?_ | refine brF ?_ | refine And.intro rfl ?_)
        refine offT ?_ ?_
        · exact decide_eq_false D4
        repeat (first | refine gT ?_ | refine gF ?_ | refine brT ?_ | refine brF ?_ | refine And.intro rfl ?_)
        refine onF ?_ ?_
        · exact decide_eq_false n1
        repeat (first | refine gT ?_ | refine gF ?_ | refine brT ?_ | refine brF ?_ | refine And.intro rfl ?_)
        refine onF ?_ ?_
        · exact decide_eq_false n2
        repeat (first | refine gT ?_ | refine gF ?_ | refine brT ?_ | refine brF ?_ | refine And.intro rfl ?_)
        refine onF ?_ ?_
        · exact decide_eq_false n3
        repeat (first | refine gT ?_ | refine gF ?_ | refine brT ?_ | refine brF ?_ | refine And.intro rfl ?_)
        refine offT ?_ ?_
        · exact decide_eq_false n4
        refine And.intro (by kernel_rfl) ?_
        repeat (first | refine gT ?_ | refine gF ?_ | refine brT ?_ | refine brF ?_ | refine And.intro rfl ?_)
        exact And.intro (Or.inr rfl) rfl
      | false =>
        refine spec_fn T_ok mixed_ok 1 Tryz.func10 fn_ok10 (by kernel_rfl) ?_
        first | refine Exists.intro _ (And.intro (sane_spec) ?_) | refine Hn_by (Exists.intro _ (And.intro (sane_spec) ?_))
        repeat (first | refine gT ?_ | refine gF ?_ | refine brT ?_ | refine brF ?_)
        first | refine Exists.intro _ (And.intro (s1) ?_) | refine Hn_by (Exists.intro _ (And.intro (s1) ?_))
        first | refine Exists.intro _ (And.intro (s2) ?_) | refine Hn_by (Exists.intro _ (And.intro (s2) ?_))
        first | refine Exists.intro _ (And.intro (s3) ?_) | refine Hn_by (Exists.intro _ (And.intro (s3) ?_))
        first | refine Exists.intro _ (And.intro (s4) ?_) | refine Hn_by (Exists.intro _ (And.intro (s4) ?_))
        first | refine Exists.intro _ (And.intro (s5) ?_) | refine Hn_by (Exists.intro _ (And.intro (s5) ?_))
        first | refine Exists.intro _ (And.intro (s6) ?_) | refine Hn_by (Exists.intro _ (And.intro (s6) ?_))
        first | refine Exists.intro _ (And.intro (s7) ?_) | refine Hn_by (Exists.intro _ (And.intro (s7) ?_))
        first | refine Exists.intro _ (And.intro (s8) ?_) | refine Hn_by (Exists.intro _ (And.intro (s8) ?_))
        first | refine Exists.intro _ (And.intro (s9) ?_) | refine Hn_by (Exists.intro _ (And.intro (s9) ?_))
        first | refine Exists.intro _ (And.intro (s10) ?_) | refine Hn_by (Exists.intro _ (And.intro (s10) ?_))
        repeat (first | refine gT ?_ | refine gF ?_ | refine brT ?_ | refine brF ?_ | refine And.intro rfl ?_)
        refine onF ?_ ?_
        · exact decide_eq_false S1
        repeat (first | refine gT ?_ | refine gF ?_ | refine brT ?_ | refine brF ?_ | refine And.intro rfl ?_)
        refine onF ?_ ?_
        · exact decide_eq_false S2
        repeat (first | refine gT ?_ | refine gF ?_ | refine brT ?_ | refine brF ?_ | refine And.intro rfl ?_)
        refine onF ?_ ?_
        · exact decide_eq_false S3
        repeat (first | refine gT ?_ | refine gF ?_ | refine brT ?_ | refine brF ?_ | refine And.intro rfl ?_)
        refine onF ?_ ?_
        · exact decide_eq_false S4
        repeat (first | refine gT ?_ | refine gF ?_ | refine brT ?_ | refine brF ?_ | refine And.intro rfl ?_)
        refine onF ?_ ?_
        · exact decide_eq_false D1
        repeat (first | refine gT ?_ | refine gF ?_ | refine brT ?_ | refine brF ?_ | refine And.intro rfl ?_)
        refine onF ?_ ?_
        · exact decide_eq_false D2
        repeat (first | refine gT ?_ | refine gF ?_ | refine brT ?_ | refine brF ?_ | refine And.intro rfl ?_)
        refine onF ?_ ?_
        · exact decide_eq_false D3
        repeat (first | refine gT ?_ | refine gF ?_ | refine brT ?_ | refine brF ?_ | refine And.intro rfl ?_)
        refine offT ?_ ?_
        · exact decide_eq_false D4
        repeat (first | refine gT ?_ | refine gF ?_ | refine brT ?_ | refine brF ?_ | refine And.intro rfl ?_)
        refine onF ?_ ?_
        · exact decide_eq_false n1
        repeat (first | refine gT ?_ | refine gF ?_ | refine brT ?_ | refine brF ?_ | refine And.intro rfl ?_)
        refine onF ?_ ?_
        · exact decide_eq_false n2
        repeat (first | refine gT ?_ | refine gF ?_ | refine brT ?_ | refine brF ?_ | refine And.intro rfl ?_)
        refine onF ?_ ?_
        · exact decide_eq_false n3
        repeat (first | refine gT ?_ | refine gF ?_ | refine brT ?_ | refine brF ?_ | refine And.intro rfl ?_)
        refine offT ?_ ?_
        · exact decide_eq_false n4
        refine And.intro (by kernel_rfl) ?_
        repeat (first | refine gT ?_ | refine gF ?_ | refine brT ?_ | refine brF ?_ | refine And.intro rfl ?_)
        first | refine Exists.intro _ (And.intro (s11) ?_) | refine Hn_by (Exists.intro _ (And.intro (s11) ?_))
        repeat (first | refine gT ?_ | refine gF ?_ | refine brT ?_ | refine brF ?_ | refine And.intro rfl ?_)
        first | refine Exists.intro _ (And.intro (s12 rfl) ?_) | refine Hn_by (Exists.intro _ (And.intro (s12 rfl) ?_))
        repeat (first | refine gT ?_ | refine gF ?_ | refine brT ?_ | refine brF ?_ | refine And.intro rfl ?_)
        first | refine Exists.intro _ (And.intro (s13) ?_) | refine Hn_by (Exists.intro _ (And.intro (s13) ?_))
        repeat (first | refine gT ?_ | refine gF ?_ | refine brT ?_ | refine brF ?_ | refine And.intro rfl ?_)
        first | refine Exists.intro _ (And.intro (s14 rfl) ?_) | refine Hn_by (Exists.intro _ (And.intro (s14 rfl) ?_))
        repeat (first | refine gT ?_ | refine gF ?_ | refine brT ?_ | refine brF ?_ | refine And.intro rfl ?_)
        exact And.intro (Or.inr rfl) rfl
end Ab
