import Derived.Test.YtbcgkonhkoopnaaGreatXRootsP
/-!
The law BoxReal.
-/
open Go Go.Proofs
namespace Ab
set_option maxRecDepth 100000
set_option maxHeartbeats 1000000

theorem real_zero (p q : AV) (a b n : Bx) (sa sb ma mb : Int) (sw mw : Bool) (hp : ∃ p1 p2 p3 p4 p5, p = par p1 p2 p3 p4 p5) (hq : ∃ q1 q2 q3 q4 q5, q = par q1 q2 q3 q4 q5) (s1 : Spec Tryz.prog [] 12 [p] a.av) (s2 : Spec Tryz.prog [] 12 [q] b.av)
    (s3 : Spec Tryz.prog [] 13 [bx a.a a.b 0 0 a.w, bx b.a b.b 0 0 b.w] (bx sa sb 0 0 sw)) (s4 : Spec Tryz.prog [] 14 [bx a.a a.b 0 0 a.w, bx b.a b.b 0 0 b.w] (bx ma mb 0 0 mw))
    (s5 : Spec Tryz.prog [] 15 [bx a.a a.b 0 0 a.w] (.tup [zeroB.av, .bool false])) (s6 : Spec Tryz.prog [] 16 [bx a.a a.b 0 0 a.w] n.av) (s7 : Spec Tryz.prog [] 15 [n.av] (.tup [zeroB.av, .bool false])) (h1 : a.a ≤ 0) (h2 : 0 ≤ a.b) :
    Spec Tryz.prog [] 3 [p, q] (.bool true) := by
  obtain ⟨p1, p2, p3, p4, p5, rfl⟩ := hp
  obtain ⟨q1, q2, q3, q4, q5, rfl⟩ := hq
  obtain ⟨aa, ab, ac, ad, aw⟩ := a
  obtain ⟨ba, bb, bc, bd, bw⟩ := b
  obtain ⟨na, nb, nc, nd, nw⟩ := n
  refine spec_fn T_ok mixed_ok 1 Tryz.func3 fn_ok3 (by kernel_rfl) ?_
  first | refine Exists.intro _ (And.intro (sane_spec) ?_) | refine Hn_by (Exists.intro _ (And.intro (sane_spec) ?_))
  repeat (first | refine gT ?_ | refine gF ?_ | refine brT ?_ | refine brF ?_)
  first | refine Exists.intro _ (And.intro (s1) ?_) | refine Hn_by (Exists.intro _ (And.intro (s1) ?_))
  first | refine Exists.intro _ (And.intro (s2) ?_) | refine Hn_by (Exists.intro _ (And.intro (s2) ?_))
  first | refine Exists.intro _ (And.intro (s3) ?_) | refine Hn_by (Exists.intro _ (And.intro (s3) ?_))
  first | refine Exists.intro _ (And.intro (s4) ?_) | refine Hn_by (Exists.intro _ (And.intro (s4) ?_))
  repeat (first | refine gT ?_ | refine gF ?_ | refine brT ?_ | refine brF ?_ | refine And.intro rfl ?_)
  first | refine Exists.intro _ (And.intro (s5) ?_) | refine Hn_by (Exists.intro _ (And.intro (s5) ?_))
  first | refine Exists.intro _ (And.intro (s6) ?_) | refine Hn_by (Exists.intro _ (And.intro (s6) ?_))
  first | refine Exists.intro _ (And.intro (s7) ?_) | refine Hn_by (Exists.intro _ (And.intro (s7) ?_))
  refine br (fun _ => ?_) (fun g => absurd h1 g)
  repeat (first | refine gT ?_ | refine gF ?_ | refine brT ?_ | refine brF ?_ | refine And.intro rfl ?_)
  refine br (fun _ => ?_) (fun g => absurd h2 g)
  repeat (first | refine gT ?_ | refine gF ?_ | refine brT ?_ | refine brF ?_ | refine And.intro rfl ?_)
  exact And.intro (Or.inr rfl) rfl

theorem real_pos (p q : AV) (a b n : Bx) (sa sb ma mb ra rb : Int) (sw mw : Bool) (hp : ∃ p1 p2 p3 p4 p5, p = par p1 p2 p3 p4 p5) (hq : ∃ q1 q2 q3 q4 q5, q = par q1 q2 q3 q4 q5) (s1 : Spec Tryz.prog [] 12 [p] a.av) (s2 : Spec Tryz.prog [] 12 [q] b.av)
    (s3 : Spec Tryz.prog [] 13 [bx a.a a.b 0 0 a.w, bx b.a b.b 0 0 b.w] (bx sa sb 0 0 sw)) (s4 : Spec Tryz.prog [] 14 [bx a.a a.b 0 0 a.w, bx b.a b.b 0 0 b.w] (bx ma mb 0 0 mw))
    (s5 : Spec Tryz.prog [] 15 [bx a.a a.b 0 0 a.w] (.tup [bx ra rb 0 0 false, .bool true])) (s6 : Spec Tryz.prog [] 16 [bx a.a a.b 0 0 a.w] n.av) (s7 : Spec Tryz.prog [] 15 [n.av] (.tup [bx 0 0 ra rb false, .bool true])) (h1 : 0 < a.a) (h2 : a.a ≤ a.b) (h3 : 0 < ra) :
    Spec Tryz.prog [] 3 [p, q] (.bool true) := by
  obtain ⟨p1, p2, p3, p4, p5, rfl⟩ := hp
  obtain ⟨q1, q2, q3, q4, q5, rfl⟩ := hq
  obtain ⟨aa, ab, ac, ad, aw⟩ := a
  obtain ⟨ba, bb, bc, bd, bw⟩ := b
  obtain ⟨na, nb, nc, nd, nw⟩ := n
  have h1' : ¬ aa ≤ 0 := Int.not_le.2 h1
  have h2' : ¬ ab < 0 := Int.not_lt.2 (Int.le_trans (Int.le_of_lt h1) h2)
  refine spec_fn T_ok mixed_ok 1 Tryz.func3 fn_ok3 (by kernel_rfl) ?_
  first | refine Exists.intro _ (And.intro (sane_spec) ?_) | refine Hn_by (Exists.intro _ (And.intro (sane_spec) ?_))
  repeat (first | refine gT ?_ | refine gF ?_ | refine brT ?_ | refine brF ?_)
  first | refine Exists.intro _ (And.intro (s1) ?_) | refine Hn_by (Exists.intro _ (And.intro (s1) ?_))
  first | refine Exists.intro _ (And.intro (s2) ?_) | refine Hn_by (Exists.intro _ (And.intro (s2) ?_))
  first | refine Exists.intro _ (And.intro (s3) ?_) | refine Hn_by (Exists.intro _ (And.intro (s3) ?_))
  first | refine Exists.intro _ (And.intro (s4) ?_) | refine Hn_by (Exists.intro _ (And.intro (s4) ?_))
  repeat (first | refine gT ?_ | refine gF ?_ | refine brT ?_ | refine brF ?_ | refine And.intro rfl ?_)
  first | refine Exists.intro _ (And.intro (s5) ?_) | refine Hn_by (Exists.intro _ (And.intro (s5) ?_))
  first | refine Exists.intro _ (And.intro (s6) ?_) | refine Hn_by (Exists.intro _ (And.intro (s6) ?_))
  first | refine Exists.intro _ (And.intro (s7) ?_) | refine Hn_by (Exists.intro _ (And.intro (s7) ?_))
  refine br (fun g => absurd g h1') (fun _ => ?_)
  repeat (first | refine gT ?_ | refine gF ?_ | refine brT ?_ | refine brF ?_ | refine And.intro rfl ?_)
  refine br (fun g => absurd g h2') (fun _ => ?_)
  repeat (first | refine gT ?_ | refine gF ?_ | refine brT ?_ | refine brF ?_ | refine And.intro rfl ?_)
  refine onT ?_ ?_
  · simp [h3]
  repeat (first | refine gT ?_ | refine gF ?_ | refine brT ?_ | refine brF ?_ | refine And.intro rfl ?_)
  refine And.intro (Or.inr rfl) ?_
  refine congrArg AV.bool ?_
  simp

theorem real_neg (p q : AV) (a b n : Bx) (sa sb ma mb ra rb : Int) (sw mw : Bool) (hp : ∃ p1 p2 p3 p4 p5, p = par p1 p2 p3 p4 p5) (hq : ∃ q1 q2 q3 q4 q5, q = par q1 q2 q3 q4 q5) (s1 : Spec Tryz.prog [] 12 [p] a.av) (s2 : Spec Tryz.prog [] 12 [q] b.av)
    (s3 : Spec Tryz.prog [] 13 [bx a.a a.b 0 0 a.w, bx b.a b.b 0 0 b.w] (bx sa sb 0 0 sw)) (s4 : Spec Tryz.prog [] 14 [bx a.a a.b 0 0 a.w, bx b.a b.b 0 0 b.w] (bx ma mb 0 0 mw))
    (s5 : Spec Tryz.prog [] 15 [bx a.a a.b 0 0 a.w] (.tup [bx 0 0 ra rb false, .bool true])) (s6 : Spec Tryz.prog [] 16 [bx a.a a.b 0 0 a.w] n.av) (s7 : Spec Tryz.prog [] 15 [n.av] (.tup [bx ra rb 0 0 false, .bool true])) (h1 : a.b < 0) (h2 : a.a ≤ a.b) (h3 : 0 < ra) :
    Spec Tryz.prog [] 3 [p, q] (.bool true) := by
  obtain ⟨p1, p2, p3, p4, p5, rfl⟩ := hp
  obtain ⟨q1, q2, q3, q4, q5, rfl⟩ := hq
  obtain ⟨aa, ab, ac, ad, aw⟩ := a
  obtain ⟨ba, bb, bc, bd, bw⟩ := b
  obtain ⟨na, nb, nc, nd, nw⟩ := n
  have h1' : aa ≤ 0 := Int.le_trans h2 (Int.le_of_lt h1)
  have h2' : ¬ ab ≥ 0 := Int.not_le.2 h1
  refine spec_fn T_ok mixed_ok 1 Tryz.func3 fn_ok3 (by kernel_rfl) ?_
  first | refine Exists.intro _ (And.intro (sane_spec) ?_) | refine Hn_by (Exists.intro _ (And.intro (sane_spec) ?_))
  repeat (first | refine gT ?_ | refine gF ?_ | refine brT ?_ | refine brF ?_)
  first | refine Exists.intro _ (And.intro (s1) ?_) | refine Hn_by (Exists.intro _ (And.intro (s1) ?_))
  first | refine Exists.intro _ (And.intro (s2) ?_) | refine Hn_by (Exists.intro _ (And.intro (s2) ?_))
  first | refine Exists.intro _ (And.intro (s3) ?_) | refine Hn_by (Exists.intro _ (And.intro (s3) ?_))
  first | refine Exists.intro _ (And.intro (s4) ?_) | refine Hn_by (Exists.intro _ (And.intro (s4) ?_))
  repeat (first | refine gT ?_ | refine gF ?_ | refine brT ?_ | refine brF ?_ | refine And.intro rfl ?_)
  first | refine Exists.intro _ (And.intro (s5) ?_) | refine Hn_by (Exists.intro _ (And.intro (s5) ?_))
  first | refine Exists.intro _ (And.intro (s6) ?_) | refine Hn_by (Exists.intro _ (And.intro (s6) ?_))
  first | refine Exists.intro _ (And.intro (s7) ?_) | refine Hn_by (Exists.intro _ (And.intro (s7) ?_))
  refine br (fun _ => ?_) (fun g => absurd h1' g)
  repeat (first | refine gT ?_ | refine gF ?_ | refine brT ?_ | refine brF ?_ | refine And.intro rfl ?_)
  refine br (fun g => absurd g h2') (fun _ => ?_)
  repeat (first | refine gT ?_ | refine gF ?_ | refine brT ?_ | refine brF ?_ | refine And.intro rfl ?_)
  refine br (fun _ => ?_) (fun g => absurd h1 g)
  repeat (first | refine gT ?_ | refine gF ?_ | refine brT ?_ | refine brF ?_ | refine And.intro rfl ?_)
  refine onT ?_ ?_
  · simp [h3]
  repeat (first | refine gT ?_ | refine gF ?_ | refine brT ?_ | refine brF ?_ | refine And.intro rfl ?_)
  refine And.intro (Or.inr rfl) ?_
  refine congrArg AV.bool ?_
  simp

theorem scaled_zero (x : Int) (up : Bool) : scaledF x 0 up = 0 := by
  unfold scaledF MF
  simp
  cases (decide (x < 0)) <;> simp
theorem zero_scaled (x : Int) (up : Bool) : scaledF 0 x up = 0 := by
  unfold scaledF MF
  simp
  cases (decide (x < 0)) <;> simp
theorem times_zero (s : Sp) : timesF s ⟨0, 0⟩ = ⟨0, 0⟩ := by
  unfold timesF
  simp only [scaled_zero]
  rfl
theorem zero_times (s : Sp) : timesF ⟨0, 0⟩ s = ⟨0, 0⟩ := by
  unfold timesF
  simp only [zero_scaled]
  rfl
def ReB (x : Bx) : Prop := x.c = 0 ∧ x.d = 0
theorem add_real {x y : Bx} (hx : Vb x) (hy : Vb y) (h1 : ReB x) (h2 : ReB y) : ReB (applyF addF x y) := by
  rw [apply_vb hx hy]
  rcases checked_cases (addF x y) with e | ⟨e, _⟩
  · rw [e]; exact ⟨rfl, rfl⟩
  · rw [e]
    unfold addF ReB
    simp only [h1.1, h1.2, h2.1, h2.2]
    exact ⟨by decide, by decide⟩
theorem mul_real {x y : Bx} (hx : Vb x) (hy : Vb y) (h1 : ReB x) (h2 : ReB y) : ReB (applyF mulF x y) := by
  rcases mul_cases hx hy with e | h
  · rw [e]; exact ⟨rfl, rfl⟩
  · unfold ReB
    rw [h.ec, h.ed, h1.1, h1.2, h2.1, h2.2, times_zero, zero_times]
    exact ⟨rfl, rfl⟩
theorem bx_real {x : Bx} (h : ReB x) : x.av = bx x.a x.b 0 0 x.w := by
  show bx x.a x.b x.c x.d x.w = _
  rw [h.1, h.2]
theorem right_real {x : Bx} (h : 0 < x.a) (hr : ReB x) : (rightF x).c = 0 ∧ (rightF x).d = 0 ∧ 0 < (rightF x).a ∧ (rightF x).w = false := by
  have hp := pLo_pos (x := x.a) (y := 0) (.inl (by omega))
  have hq : qHi x.a 0 = 0 := by
    unfold qHi
    simp only [Int.natAbs_zero, Nat.zero_mul, Nat.zero_add]
    exact Nat.div_eq_of_lt (by omega)
  have e : (imF x.a 0).hi = 0 := by unfold imF; rw [if_neg (by omega)]; simp only [hq]; rfl
  have f : (reF x.a 0).lo = (pLo x.a 0 : Int) := by unfold reF; rw [if_neg (by omega)]
  unfold rightF
  simp only [hr.1, hr.2]
  refine ⟨?_, ?_, ?_, trivial⟩
  · rw [if_pos (by decide), e]; rfl
  · rw [if_pos (by decide), e]
  · rw [show mx (mx 0 (-0)) 0 = 0 from rfl, f]; omega

theorem real_law (p1 p2 p3 p4 p5 q1 q2 q3 q4 q5 : Int) (h1 : I64 p1) (h2 : I64 p2) (h3 : I64 p3) (h4 : I64 p4) (h5 : I64 p5) (k1 : I64 q1) (k2 : I64 q2) (k3 : I64 q3) (k4 : I64 q4) (k5 : I64 q5) :
    Spec Tryz.prog [] 3 [par p1 p2 p3 p4 p5, par q1 q2 q3 q4 q5] (.bool true) := by
  obtain ⟨sa, va⟩ := made_ok h1 h2 h3 h4 h5
  obtain ⟨sb, vb⟩ := made_ok k1 k2 k3 k4 k5
  generalize madeF p1 p2 p3 p4 p5 = a at sa va
  generalize madeF q1 q2 q3 q4 q5 = b at sb vb
  have real_vb : ∀ {x : Bx}, Vb x → Vb ⟨x.a, x.b, 0, 0, x.w⟩ := fun {x} h => ⟨h.1, h.2.1, Int.le_refl _, h.2.2.2.1, h.2.2.2.2.1, by show -MF ≤ 0; decide, by show (0 : Int) ≤ MF; decide⟩
  have vA := real_vb va
  have vB := real_vb vb
  have rA : ReB ⟨a.a, a.b, 0, 0, a.w⟩ := ⟨rfl, rfl⟩
  have rB : ReB ⟨b.a, b.b, 0, 0, b.w⟩ := ⟨rfl, rfl⟩
  have s3 := add_spec ⟨a.a, a.b, 0, 0, a.w⟩ ⟨b.a, b.b, 0, 0, b.w⟩
  rw [bx_real (add_real vA vB rA rB)] at s3
  have s4 := mul_spec ⟨a.a, a.b, 0, 0, a.w⟩ ⟨b.a, b.b, 0, 0, b.w⟩
  rw [bx_real (mul_real vA vB rA rB)] at s4
  have sn := neg_spec ⟨a.a, a.b, 0, 0, a.w⟩
  rw [(neg_vb vA).1] at sn
  have vN := ngB_vb vA
  have hw := va.1
  by_cases c1 : 0 < a.a
  · have z : meetsF ⟨a.a, a.b, 0, 0, a.w⟩ zeroB = false := nz_zero vA (.inl c1)
    have nN : Nz (ngB ⟨a.a, a.b, 0, 0, a.w⟩) := .inr (.inl (show -a.a < 0 by omega))
    have t1 := sqrt_yes _ vA z
    have t2 := sqrt_yes _ vN (nz_zero vN nN)
    rw [root_right (x := ⟨a.a, a.b, 0, 0, a.w⟩) c1] at t1
    rw [root_left vN (show -a.a < 0 by omega)] at t2
    have e : ngB (ngB ⟨a.a, a.b, 0, 0, a.w⟩) = ⟨a.a, a.b, 0, 0, a.w⟩ := by
      unfold ngB; simp only [Int.neg_neg, hw]
    rw [e] at t2
    obtain ⟨r1, r2, r3, r4⟩ := right_real (x := ⟨a.a, a.b, 0, 0, a.w⟩) c1 rA
    have e1 : (rightF ⟨a.a, a.b, 0, 0, a.w⟩).av = bx (rightF ⟨a.a, a.b, 0, 0, a.w⟩).a (rightF ⟨a.a, a.b, 0, 0, a.w⟩).b 0 0 false := by
      show bx _ _ _ _ _ = _
      rw [r1, r2, r4]
    have e2 : (rotF (rightF ⟨a.a, a.b, 0, 0, a.w⟩)).av = bx 0 0 (rightF ⟨a.a, a.b, 0, 0, a.w⟩).a (rightF ⟨a.a, a.b, 0, 0, a.w⟩).b false := by
      show bx (-_) (-_) _ _ _ = _
      rw [r1, r2]; rfl
    rw [e1] at t1
    rw [e2] at t2
    exact real_pos _ _ a b (ngB ⟨a.a, a.b, 0, 0, a.w⟩) _ _ _ _ _ _ _ _ ⟨_, _, _, _, _, rfl⟩ ⟨_, _, _, _, _, rfl⟩ sa sb s3 s4 t1 sn t2 c1 va.2.1 r3
  · by_cases c2 : a.b < 0
    · have nA : Nz ⟨a.a, a.b, 0, 0, a.w⟩ := .inr (.inl c2)
      have cN : 0 < (ngB ⟨a.a, a.b, 0, 0, a.w⟩).a := by show 0 < -a.b; omega
      have t1 := sqrt_yes _ vA (nz_zero vA nA)
      have t2 := sqrt_yes _ vN (nz_zero vN (.inl cN))
      rw [root_left vA c2] at t1
      rw [root_right cN] at t2
      obtain ⟨r1, r2, r3, r4⟩ := right_real cN ⟨rfl, rfl⟩
      have e1 : (rightF (ngB ⟨a.a, a.b, 0, 0, a.w⟩)).av = bx (rightF (ngB ⟨a.a, a.b, 0, 0, a.w⟩)).a (rightF (ngB ⟨a.a, a.b, 0, 0, a.w⟩)).b 0 0 false := by
        show bx _ _ _ _ _ = _
        rw [r1, r2, r4]
      have e2 : (rotF (rightF (ngB ⟨a.a, a.b, 0, 0, a.w⟩))).av = bx 0 0 (rightF (ngB ⟨a.a, a.b, 0, 0, a.w⟩)).a (rightF (ngB ⟨a.a, a.b, 0, 0, a.w⟩)).b false := by
        show bx (-_) (-_) _ _ _ = _
        rw [r1, r2]; rfl
      rw [e1] at t2
      rw [e2] at t1
      exact real_neg _ _ a b (ngB ⟨a.a, a.b, 0, 0, a.w⟩) _ _ _ _ _ _ _ _ ⟨_, _, _, _, _, rfl⟩ ⟨_, _, _, _, _, rfl⟩ sa sb s3 s4 t1 sn t2 c2 va.2.1 r3
    · have z : meetsF ⟨a.a, a.b, 0, 0, a.w⟩ zeroB = true := (meets_vb vA zero_vb).2 ⟨by show a.a ≤ 0; omega, by show 0 ≤ a.b; omega, Int.le_refl _, Int.le_refl _⟩
      have z2 : meetsF (ngB ⟨a.a, a.b, 0, 0, a.w⟩) zeroB = true := (meets_vb vN zero_vb).2 ⟨by show -a.b ≤ 0; omega, by show 0 ≤ -a.a; omega, Int.le_refl _, Int.le_refl _⟩
      exact real_zero _ _ a b (ngB ⟨a.a, a.b, 0, 0, a.w⟩) _ _ _ _ _ _ ⟨_, _, _, _, _, rfl⟩ ⟨_, _, _, _, _, rfl⟩ sa sb s3 s4 (sqrt_no _ z) sn (sqrt_no _ z2) (by omega) (by omega)
end Ab
