import Derived.Test.YtbcgkonhkoopnaaGreatXOrderP
import Derived.OpenShut
import Derived.Test.YtbcgkonhkoopnaaGreatXMulQ
/-!
The law BoxOrder: the walk, and the plain law.
-/
open Go Go.Proofs
namespace Ab
set_option maxRecDepth 100000
set_option maxHeartbeats 1000000

theorem onT {b : Bool} {A B : Prop} (e : b = true) (h : A) : (b = true → A) ∧ (b = false → B) := ⟨fun _ => h, fun g => absurd (e.symm.trans g) (by decide)⟩
theorem onF {b : Bool} {A B : Prop} (e : b = false) (h : A) : (b = false → A) ∧ (b = true → B) := ⟨fun _ => h, fun g => absurd (e.symm.trans g) (by decide)⟩
theorem offT {b : Bool} {A B : Prop} (e : b = false) (h : B) : (b = true → A) ∧ (b = false → B) := ⟨fun g => absurd (e.symm.trans g) (by decide), fun _ => h⟩
theorem offF {b : Bool} {A B : Prop} (e : b = true) (h : B) : (b = false → A) ∧ (b = true → B) := ⟨fun g => absurd (e.symm.trans g) (by decide), fun _ => h⟩
abbrev par (a b c d e : Int) : AV := .agg [.int .i64 a, .int .i64 b, .int .i64 c, .int .i64 d, .int .i64 e]

theorem order_walk (p q : AV) (i j : Int) (a b h c d : Bx) (m z k : Bool) (hp : ∃ p1 p2 p3 p4 p5, p = par p1 p2 p3 p4 p5) (hq : ∃ q1 q2 q3 q4 q5, q = par q1 q2 q3 q4 q5)
    (s1 : Spec Tryz.prog [] 12 [p] a.av) (s2 : Spec Tryz.prog [] 12 [q] b.av) (s3 : Spec Tryz.prog [] 28 [a.av, b.av] h.av) (s4 : Spec Tryz.prog [] 18 [a.av, .int .i64 i, .int .i64 j] c.av)
    (s5 : Spec Tryz.prog [] 20 [a.av, h.av] (.bool true)) (s6 : Spec Tryz.prog [] 20 [b.av, h.av] (.bool true)) (s7 : Spec Tryz.prog [] 28 [b.av, a.av] h.av) (s8 : Spec Tryz.prog [] 20 [c.av, h.av] (.bool true))
    (s9 : Spec Tryz.prog [] 21 [a.av, c.av] (.bool true)) (s10 : Spec Tryz.prog [] 21 [a.av, b.av] (.bool m)) (s11 : Spec Tryz.prog [] 21 [b.av, a.av] (.bool m)) (s12 : Spec Tryz.prog [] 27 [a.av, b.av] d.av)
    (s13 : Spec Tryz.prog [] 17 [d.av] (.bool z)) (s14 : Spec Tryz.prog [] 20 [a.av, b.av] (.bool k))
    (g1 : h.a = mn a.a b.a) (g2 : h.b = mx a.b b.b) (g3 : h.c = mn a.c b.c) (g4 : h.d = mx a.d b.d) (g5 : d.w = false → m = z) (g6 : k = eqB5 h b) :
    Spec Tryz.prog [] 7 [p, q, .int .i64 i, .int .i64 j] (.bool true) := by
  obtain ⟨p1, p2, p3, p4, p5, rfl⟩ := hp
  obtain ⟨q1, q2, q3, q4, q5, rfl⟩ := hq
  obtain ⟨aa, ab, ac, ad, aw⟩ := a
  obtain ⟨ba, bb, bc, bd, bw⟩ := b
  obtain ⟨ha, hb, hc, hd, hw⟩ := h
  obtain ⟨ca, cb, cc, cd, cw⟩ := c
  obtain ⟨da, db, dc, dd, dw⟩ := d
  simp only at g1 g2 g3 g4 g5
  cases dw with
  | true =>
    refine spec_fn T_ok mixed_ok 1 Tryz.func7 fn_ok7 (by kernel_rfl) ?_
    first | refine Exists.intro _ (And.intro (sane_spec) ?_) | refine Hn_by (Exists.intro _ (And.intro (sane_spec) ?_))
    repeat (first | refine gT ?_ | refine gF ?_ | refine brT ?_ | refine brF ?_)
    first | refine Exists.intro _ (And.intro (s1) ?_) | refine Hn_by (Exists.intro _ (And.intro (s1) ?_))
    first | refine Exists.intro _ (And.intro (s2) ?_) | refine Hn_by (Exists.intro _ (And.intro (s2) ?_))
    first | refine Exists.intro _ (And.intro (s3) ?_) | refine Hn_by (Exists.intro _ (And.intro (s3) ?_))
    first | refine Exists.intro _ (And.intro (s4) ?_) | refine Hn_by (Exists.intro _ (And.intro (s4) ?_))
    refine And.intro (by kernel_rfl) ?_
    repeat (first | refine gT ?_ | refine gF ?_ | refine brT ?_ | refine brF ?_ | refine And.intro rfl ?_)
    first | refine Exists.intro _ (And.intro (s5) ?_) | refine Hn_by (Exists.intro _ (And.intro (s5) ?_))
    repeat (first | refine gT ?_ | refine gF ?_ | refine brT ?_ | refine brF ?_ | refine And.intro rfl ?_)
    first | refine Exists.intro _ (And.intro (s6) ?_) | refine Hn_by (Exists.intro _ (And.intro (s6) ?_))
    repeat (first | refine gT ?_ | refine gF ?_ | refine brT ?_ | refine brF ?_ | refine And.intro rfl ?_)
    first | refine Exists.intro _ (And.intro (s7) ?_) | refine Hn_by (Exists.intro _ (And.intro (s7) ?_))
    repeat (first | refine gT ?_ | refine gF ?_ | refine brT ?_ | refine brF ?_ | refine And.intro rfl ?_)
    refine onF ?_ ?_
    · simp
    repeat (first | refine gT ?_ | refine gF ?_ | refine brT ?_ | refine brF ?_ | refine And.intro rfl ?_)
    first | refine Exists.intro _ (And.intro (s8) ?_) | refine Hn_by (Exists.intro _ (And.intro (s8) ?_))
    repeat (first | refine gT ?_ | refine gF ?_ | refine brT ?_ | refine brF ?_ | refine And.intro rfl ?_)
    first | refine Exists.intro _ (And.intro (s9) ?_) | refine Hn_by (Exists.intro _ (And.intro (s9) ?_))
    repeat (first | refine gT ?_ | refine gF ?_ | refine brT ?_ | refine brF ?_ | refine And.intro rfl ?_)
    first | refine Exists.intro _ (And.intro (s10) ?_) | refine Hn_by (Exists.intro _ (And.intro (s10) ?_))
    repeat (first | refine gT ?_ | refine gF ?_ | refine brT ?_ | refine brF ?_ | refine And.intro rfl ?_)
    first | refine Exists.intro _ (And.intro (s11) ?_) | refine Hn_by (Exists.intro _ (And.intro (s11) ?_))
    repeat (first | refine gT ?_ | refine gF ?_ | refine brT ?_ | refine brF ?_ | refine And.intro rfl ?_)
    refine offT ?_ ?_
    · simp
    refine onT ?_ ?_
    · simp [g1, mn]
    repeat (first | refine gT ?_ | refine gF ?_ | refine brT ?_ | refine brF ?_ | refine And.intro rfl ?_)
    refine onT ?_ ?_
    · simp [g2, mx]
    repeat (first | refine gT ?_ | refine gF ?_ | refine brT ?_ | refine brF ?_ | refine And.intro rfl ?_)
    refine onT ?_ ?_
    · simp [g3, mn]
    repeat (first | refine gT ?_ | refine gF ?_ | refine brT ?_ | refine brF ?_ | refine And.intro rfl ?_)
    first | refine Exists.intro _ (And.intro (s12) ?_) | refine Hn_by (Exists.intro _ (And.intro (s12) ?_))
    refine And.intro (by kernel_rfl) ?_
    refine onT ?_ ?_
    · simp [g4, mx]
    repeat (first | refine gT ?_ | refine gF ?_ | refine brT ?_ | refine brF ?_ | refine And.intro rfl ?_)
    first | refine Exists.intro _ (And.intro (s14) ?_) | refine Hn_by (Exists.intro _ (And.intro (s14) ?_))
    repeat (first | refine gT ?_ | refine gF ?_ | refine brT ?_ | refine brF ?_ | refine And.intro rfl ?_)
    refine And.intro (Or.inr rfl) ?_
    refine congrArg AV.bool ?_
    simp [g6, eqB5]
  | false =>
    refine spec_fn T_ok mixed_ok 1 Tryz.func7 fn_ok7 (by kernel_rfl) ?_
    first | refine Exists.intro _ (And.intro (sane_spec) ?_) | refine Hn_by (Exists.intro _ (And.intro (sane_spec) ?_))
    repeat (first | refine gT ?_ | refine gF ?_ | refine brT ?_ | refine brF ?_)
    first | refine Exists.intro _ (And.intro (s1) ?_) | refine Hn_by (Exists.intro _ (And.intro (s1) ?_))
    first | refine Exists.intro _ (And.intro (s2) ?_) | refine Hn_by (Exists.intro _ (And.intro (s2) ?_))
    first | refine Exists.intro _ (And.intro (s3) ?_) | refine Hn_by (Exists.intro _ (And.intro (s3) ?_))
    first | refine Exists.intro _ (And.intro (s4) ?_) | refine Hn_by (Exists.intro _ (And.intro (s4) ?_))
    refine And.intro (by kernel_rfl) ?_
    repeat (first | refine gT ?_ | refine gF ?_ | refine brT ?_ | refine brF ?_ | refine And.intro rfl ?_)
    first | refine Exists.intro _ (And.intro (s5) ?_) | refine Hn_by (Exists.intro _ (And.intro (s5) ?_))
    repeat (first | refine gT ?_ | refine gF ?_ | refine brT ?_ | refine brF ?_ | refine And.intro rfl ?_)
    first | refine Exists.intro _ (And.intro (s6) ?_) | refine Hn_by (Exists.intro _ (And.intro (s6) ?_))
    repeat (first | refine gT ?_ | refine gF ?_ | refine brT ?_ | refine brF ?_ | refine And.intro rfl ?_)
    first | refine Exists.intro _ (And.intro (s7) ?_) | refine Hn_by (Exists.intro _ (And.intro (s7) ?_))
    repeat (first | refine gT ?_ | refine gF ?_ | refine brT ?_ | refine brF ?_ | refine And.intro rfl ?_)
    refine onF ?_ ?_
    · simp
    repeat (first | refine gT ?_ | refine gF ?_ | refine brT ?_ | refine brF ?_ | refine And.intro rfl ?_)
    first | refine Exists.intro _ (And.intro (s8) ?_) | refine Hn_by (Exists.intro _ (And.intro (s8) ?_))
    repeat (first | refine gT ?_ | refine gF ?_ | refine brT ?_ | refine brF ?_ | refine And.intro rfl ?_)
    first | refine Exists.intro _ (And.intro (s9) ?_) | refine Hn_by (Exists.intro _ (And.intro (s9) ?_))
    repeat (first | refine gT ?_ | refine gF ?_ | refine brT ?_ | refine brF ?_ | refine And.intro rfl ?_)
    first | refine Exists.intro _ (And.intro (s10) ?_) | refine Hn_by (Exists.intro _ (And.intro (s10) ?_))
    repeat (first | refine gT ?_ | refine gF ?_ | refine brT ?_ | refine brF ?_ | refine And.intro rfl ?_)
    first | refine Exists.intro _ (And.intro (s11) ?_) | refine Hn_by (Exists.intro _ (And.intro (s11) ?_))
    repeat (first | refine gT ?_ | refine gF ?_ | refine brT ?_ | refine brF ?_ | refine And.intro rfl ?_)
    refine offT ?_ ?_
    · simp
    refine onT ?_ ?_
    · simp [g1, mn]
    repeat (first | refine gT ?_ | refine gF ?_ | refine brT ?_ | refine brF ?_ | refine And.intro rfl ?_)
    refine onT ?_ ?_
    · simp [g2, mx]
    repeat (first | refine gT ?_ | refine gF ?_ | refine brT ?_ | refine brF ?_ | refine And.intro rfl ?_)
    refine onT ?_ ?_
    · simp [g3, mn]
    repeat (first | refine gT ?_ | refine gF ?_ | refine brT ?_ | refine brF ?_ | refine And.intro rfl ?_)
    first | refine Exists.intro _ (And.intro (s12) ?_) | refine Hn_by (Exists.intro _ (And.intro (s12) ?_))
    refine And.intro (by kernel_rfl) ?_
    refine onT ?_ ?_
    · simp [g4, mx]
    repeat (first | refine gT ?_ | refine gF ?_ | refine brT ?_ | refine brF ?_ | refine And.intro rfl ?_)
    first | refine Exists.intro _ (And.intro (s10) ?_) | refine Hn_by (Exists.intro _ (And.intro (s10) ?_))
    repeat (first | refine gT ?_ | refine gF ?_ | refine brT ?_ | refine brF ?_ | refine And.intro rfl ?_)
    first | refine Exists.intro _ (And.intro (s13) ?_) | refine Hn_by (Exists.intro _ (And.intro (s13) ?_))
    repeat (first | refine gT ?_ | refine gF ?_ | refine brT ?_ | refine brF ?_ | refine And.intro rfl ?_)
    refine onT ?_ ?_
    · simp [g5]
    repeat (first | refine gT ?_ | refine gF ?_ | refine brT ?_ | refine brF ?_ | refine And.intro rfl ?_)
    first | refine Exists.intro _ (And.intro (s14) ?_) | refine Hn_by (Exists.intro _ (And.intro (s14) ?_))
    repeat (first | refine gT ?_ | refine gF ?_ | refine brT ?_ | refine brF ?_ | refine And.intro rfl ?_)
    refine And.intro (Or.inr rfl) ?_
    refine congrArg AV.bool ?_
    simp [g6, eqB5]

/-- the contract of Made, on whole numbers that are ints -/
theorem made_ok {re im wi h bits : Int} (h1 : I64 re) (h2 : I64 im) (h3 : I64 wi) (h4 : I64 h) (h5 : I64 bits) : Spec Tryz.prog [] 12 [par re im wi h bits] (madeF re im wi h bits).av ∧ Vb (madeF re im wi h bits) := by
  obtain ⟨m1, m2, m3⟩ := most_ok h5
  refine ⟨made_spec re im wi h bits m1 ?_ ?_, made_vb h1 h2 h3 h4 h5⟩
  · unfold MF at m3
    rw [w64_eq (n := 2 * mostF bits) (by omega), w64_eq (by omega)]
    omega
  · unfold mn; split <;> omega
theorem within_ok {p : Bx} (h : Vb p) {n m : Int} (hn : I64 n) (hm : I64 m) : Spec Tryz.prog [] 18 [p.av, .int .i64 n, .int .i64 m] (withinF p n m).av ∧ Vb (withinF p n m) ∧ In (withinF p n m) p := by
  obtain ⟨w0, w1, w2, w3, w4, n1, n2, n3, n4⟩ := within_vb h hn hm
  exact ⟨within_spec p n m n1 n2 n3 n4, w0, w1, w2, w3, w4⟩
theorem inside_by {x y : Bx} {r : Bool} (h : insideF x y = r) : Spec Tryz.prog [] 20 [x.av, y.av] (.bool r) := h ▸ inside_spec x y
theorem meets_by {x y : Bx} {r : Bool} (h : meetsF x y = r) : Spec Tryz.prog [] 21 [x.av, y.av] (.bool r) := h ▸ meets_spec x y
theorem hull_by {x y z : Bx} (h : applyF hullF x y = z) : Spec Tryz.prog [] 28 [x.av, y.av] z.av := h ▸ hull_spec x y
theorem meets_vb {x y : Bx} (hx : Vb x) (hy : Vb y) : meetsF x y = true ↔ (x.a ≤ y.b ∧ y.a ≤ x.b ∧ x.c ≤ y.d ∧ y.c ≤ x.d) := by
  unfold meetsF meetsC
  rw [hx.checked, hy.checked, hx.1, hy.1]
  obtain ⟨_, a1, a2, _⟩ := hx
  obtain ⟨_, b1, b2, _⟩ := hy
  simp only [Bool.false_or, decide_eq_true_eq]
  unfold mx mn
  constructor
  · rintro ⟨e1, e2⟩
    split at e1 <;> split at e1 <;> split at e2 <;> split at e2 <;> omega
  · rintro ⟨e1, e2, e3, e4⟩
    refine ⟨?_, ?_⟩ <;> (repeat' split) <;> omega
theorem meets_comm {x y : Bx} (hx : Vb x) (hy : Vb y) : meetsF x y = meetsF y x := by
  rw [Bool.eq_iff_iff, meets_vb hx hy, meets_vb hy hx]
  omega
theorem zero_vb : Vb ⟨0, 0, 0, 0, false⟩ := ⟨rfl, by decide, by decide, by decide, by decide, by decide, by decide⟩
theorem hull_comm (x y : Bx) : hullF x y = hullF y x := by
  unfold hullF
  simp only [Bx.mk.injEq, and_true]
  refine ⟨?_, ?_, ?_, ?_⟩ <;> (repeat' split) <;> omega

theorem order_law (p1 p2 p3 p4 p5 q1 q2 q3 q4 q5 i j : Int) (h1 : I64 p1) (h2 : I64 p2) (h3 : I64 p3) (h4 : I64 p4) (h5 : I64 p5) (k1 : I64 q1) (k2 : I64 q2) (k3 : I64 q3) (k4 : I64 q4) (k5 : I64 q5) (hi : I64 i) (hj : I64 j) :
    Spec Tryz.prog [] 7 [par p1 p2 p3 p4 p5, par q1 q2 q3 q4 q5, .int .i64 i, .int .i64 j] (.bool true) := by
  obtain ⟨sa, va⟩ := made_ok h1 h2 h3 h4 h5
  obtain ⟨sb, vb⟩ := made_ok k1 k2 k3 k4 k5
  generalize madeF p1 p2 p3 p4 p5 = a at sa va
  generalize madeF q1 q2 q3 q4 q5 = b at sb vb
  obtain ⟨sc, vc, ic⟩ := within_ok va hi hj
  generalize withinF a i j = c at sc vc ic
  obtain ⟨eh, vh⟩ := hull_vb va vb
  have eh2 : applyF hullF b a = hullF a b := by rw [(hull_vb vb va).1, hull_comm]
  have g1 : (hullF a b).a = mn a.a b.a := rfl
  have g2 : (hullF a b).b = mx a.b b.b := rfl
  have g3 : (hullF a b).c = mn a.c b.c := rfl
  have g4 : (hullF a b).d = mx a.d b.d := rfl
  have g6 : insideF a b = eqB5 (hullF a b) b := inside_vb va vb
  have ah : In a (hullF a b) := by unfold In; rw [g1, g2, g3, g4]; unfold mn mx; refine ⟨?_, ?_, ?_, ?_⟩ <;> split <;> omega
  have bh : In b (hullF a b) := by unfold In; rw [g1, g2, g3, g4]; unfold mn mx; refine ⟨?_, ?_, ?_, ?_⟩ <;> split <;> omega
  have ch : In c (hullF a b) := by
    obtain ⟨i1, i2, i3, i4⟩ := ic
    obtain ⟨j1, j2, j3, j4⟩ := ah
    exact ⟨by omega, by omega, by omega, by omega⟩
  generalize hullF a b = h at *
  have sub : (subF a b).w = false → meetsF a b = meetsF (subF a b) ⟨0, 0, 0, 0, false⟩ := by
    intro hw
    unfold subF at hw ⊢
    obtain ⟨en, vn⟩ := neg_vb vb
    rw [en] at hw ⊢
    rw [apply_vb va vn] at hw ⊢
    rcases checked_cases (addF a ⟨-b.b, -b.a, -b.d, -b.c, false⟩) with e | ⟨e, hv⟩
    · rw [e] at hw; exact absurd hw (by decide)
    · rw [e, Bool.eq_iff_iff, meets_vb va vb, meets_vb hv zero_vb]
      clear hw e hv ic sc vc ah bh ch
      obtain ⟨_, a1, a2, a3, a4, a5, a6⟩ := va
      obtain ⟨_, b1, b2, b3, b4, b5, b6⟩ := vb
      unfold MF at *
      unfold addF
      simp only
      rw [w64_eq (n := a.a + -b.b) (by omega), w64_eq (n := a.b + -b.a) (by omega), w64_eq (n := a.c + -b.d) (by omega), w64_eq (n := a.d + -b.c) (by omega)]
      omega
  refine order_walk _ _ i j a b h c (subF a b) (meetsF a b) (meetsF (subF a b) ⟨0, 0, 0, 0, false⟩) (insideF a b) ⟨_, _, _, _, _, rfl⟩ ⟨_, _, _, _, _, rfl⟩ sa sb (hull_by eh) sc
    (inside_by (inside_of va vh ah)) (inside_by (inside_of vb vh bh)) (hull_by eh2) (inside_by (inside_of vc vh ch)) (meets_by ?_) (meets_spec a b) (meets_by (meets_comm vb va)) (sub_spec a b) (zero_spec _) (inside_spec a b) g1 g2 g3 g4 sub g6
  rw [meets_vb va vc]
  obtain ⟨i1, i2, i3, i4⟩ := ic
  obtain ⟨_, c1, c2, _⟩ := vc
  omega
theorem i64_of {n : Int} (h : (Lit.int .i64 n).wf = true) : I64 n := Go.bounds_i64 h
end Ab
