import Derived.Test.YtbcgkonhkoopnaaGreatXRootP
/-!
Boxes of square roots: plain.
-/
open Go Go.Proofs
namespace Ab
set_option maxRecDepth 100000

def LeR (e X Y : Int) : Prop := e ≤ 0 ∨ LA (e * e) X Y
def GeR (e X Y : Int) : Prop := 0 ≤ e ∧ HA (e * e) X Y
theorem sq_le {a b : Int} (ha : 0 ≤ a) (hb : 0 ≤ b) (h : a * a ≤ b * b) : a ≤ b := by
  refine Int.not_lt.1 fun h2 => ?_
  have k1 : b * b ≤ b * a := Int.mul_le_mul_of_nonneg_left (by omega) hb
  have k2 : b * a < a * a := Int.mul_lt_mul_of_pos_right h2 (by omega)
  omega
theorem sq_le_sq {a b : Int} (h1 : -b ≤ a) (h2 : a ≤ b) : a * a ≤ b * b := by
  by_cases ha : 0 ≤ a
  · exact Int.mul_le_mul h2 h2 ha (by omega)
  · rw [← Int.neg_mul_neg a a]
    exact Int.mul_le_mul (by omega) (by omega) (by omega) (by omega)
theorem le_ge {e f X Y : Int} (h1 : LeR e X Y) (h2 : GeR f X Y) : e ≤ f := by
  obtain ⟨f0, hf⟩ := h2
  rcases h1 with h1 | h1
  · omega
  · by_cases h : 0 ≤ e
    · exact sq_le h f0 (la_ha h1 hf)
    · omega
theorem LeR.pos {e X Y : Int} (h : LeR e X Y) : LA (mx e 0 * mx e 0) X Y := by
  unfold mx
  rcases h with h | h
  · by_cases h2 : e < 0
    · rw [if_pos h2]
      refine ⟨by decide, ?_⟩
      simp only [Int.mul_zero, Int.zero_mul]
      by_cases hy : 0 ≤ Y
      · exact Int.mul_nonneg hy hy
      · rw [← Int.neg_mul_neg]; exact Int.mul_nonneg (by omega) (by omega)
    · rw [if_neg h2]
      obtain rfl : e = 0 := by omega
      refine ⟨by decide, ?_⟩
      simp only [Int.mul_zero, Int.zero_mul]
      by_cases hy : 0 ≤ Y
      · exact Int.mul_nonneg hy hy
      · rw [← Int.neg_mul_neg]; exact Int.mul_nonneg (by omega) (by omega)
  · split
    · refine ⟨by decide, ?_⟩
      simp only [Int.mul_zero, Int.zero_mul]
      by_cases hy : 0 ≤ Y
      · exact Int.mul_nonneg hy hy
      · rw [← Int.neg_mul_neg]; exact Int.mul_nonneg (by omega) (by omega)
    · exact h
theorem cc_neg_sq (y : Int) : (cc * -y) * (cc * -y) = (cc * y) * (cc * y) := by rw [Int.mul_neg, Int.neg_mul_neg]
theorem LeR.conj {e X y : Int} (h : LeR e X (cc * y)) : LeR e X (cc * -y) := by
  rcases h with h | ⟨h1, h2⟩
  · exact .inl h
  · exact .inr ⟨h1, by rw [cc_neg_sq]; exact h2⟩
theorem GeR.conj {e X y : Int} (h : GeR e X (cc * y)) : GeR e X (cc * -y) := by
  obtain ⟨h0, h1, h2, h3⟩ := h
  exact ⟨h0, h1, h2, by rw [cc_neg_sq]; exact h3⟩

/-- the root of x + i y whose real part is not negative is in the box -/
structure RtIn (s : Bx) (x y : Int) : Prop where
  rl : LeR s.a (cc * x) (cc * y)
  rh : GeR s.b (cc * x) (cc * y)
  up : 0 ≤ y → LeR s.c (-(cc * x)) (cc * y) ∧ GeR s.d (-(cc * x)) (cc * y)
  dn : y ≤ 0 → LeR (-s.d) (-(cc * x)) (cc * y) ∧ GeR (-s.c) (-(cc * x)) (cc * y)
def conjF (a : Bx) : Bx := ⟨a.a, a.b, -a.d, -a.c, false⟩
def rotF (w : Bx) : Bx := ⟨-w.d, -w.c, w.a, w.b, false⟩
theorem RtIn.conj {s : Bx} {x y : Int} (h : RtIn s x y) : RtIn (conjF s) x (-y) := by
  refine ⟨h.rl.conj, h.rh.conj, fun hy => ?_, fun hy => ?_⟩
  · obtain ⟨h1, h2⟩ := h.dn (by omega)
    exact ⟨h1.conj, h2.conj⟩
  · obtain ⟨h1, h2⟩ := h.up (by omega)
    refine ⟨?_, ?_⟩
    · show LeR (- -s.c) _ _
      rw [Int.neg_neg]; exact h1.conj
    · show GeR (- -s.d) _ _
      rw [Int.neg_neg]; exact h2.conj
theorem RtIn.meets {s t : Bx} {x y : Int} (h : RtIn s x y) (g : RtIn t x y) : s.a ≤ t.b ∧ s.c ≤ t.d := by
  refine ⟨le_ge h.rl g.rh, ?_⟩
  by_cases hy : 0 ≤ y
  · exact le_ge (h.up hy).1 (g.up hy).2
  · have := le_ge (g.dn (by omega)).1 (h.dn (by omega)).2
    omega

/-- squares of numbers of the box reach both sides of x + i y (in units of 2^-48) -/
structure Wit (s : Bx) (x y : Int) : Prop where
  w1 : ∃ e f, s.a ≤ e ∧ e ≤ s.b ∧ s.c ≤ f ∧ f ≤ s.d ∧ e * e - f * f ≤ 2 * (cc * x)
  w2 : ∃ e f, s.a ≤ e ∧ e ≤ s.b ∧ s.c ≤ f ∧ f ≤ s.d ∧ 2 * (cc * x) ≤ e * e - f * f
  w3 : ∃ e f, s.a ≤ e ∧ e ≤ s.b ∧ s.c ≤ f ∧ f ≤ s.d ∧ e * f ≤ cc * y
  w4 : ∃ e f, s.a ≤ e ∧ e ≤ s.b ∧ s.c ≤ f ∧ f ≤ s.d ∧ cc * y ≤ e * f
theorem Wit.conj {s : Bx} {x y : Int} (h : Wit (conjF s) x (-y)) : Wit s x y := by
  obtain ⟨⟨e1, f1, a1, b1, c1, d1, k1⟩, ⟨e2, f2, a2, b2, c2, d2, k2⟩, ⟨e3, f3, a3, b3, c3, d3, k3⟩, ⟨e4, f4, a4, b4, c4, d4, k4⟩⟩ := h
  unfold conjF at *
  simp only at *
  rw [Int.mul_neg] at k3 k4
  exact ⟨⟨e1, -f1, a1, b1, by omega, by omega, by rw [Int.neg_mul_neg]; exact k1⟩, ⟨e2, -f2, a2, b2, by omega, by omega, by rw [Int.neg_mul_neg]; exact k2⟩,
    ⟨e4, -f4, a4, b4, by omega, by omega, by rw [Int.mul_neg]; omega⟩, ⟨e3, -f3, a3, b3, by omega, by omega, by rw [Int.mul_neg]; omega⟩⟩
theorem Wit.rot {w : Bx} {x y : Int} (h : Wit w (-x) (-y)) : Wit (rotF w) x y := by
  obtain ⟨⟨e1, f1, a1, b1, c1, d1, k1⟩, ⟨e2, f2, a2, b2, c2, d2, k2⟩, ⟨e3, f3, a3, b3, c3, d3, k3⟩, ⟨e4, f4, a4, b4, c4, d4, k4⟩⟩ := h
  rw [Int.mul_neg] at k1 k2 k3 k4
  refine ⟨⟨-f2, e2, by show -w.d ≤ _; omega, by show _ ≤ -w.c; omega, a2, b2, by rw [Int.neg_mul_neg]; omega⟩, ⟨-f1, e1, by show -w.d ≤ _; omega, by show _ ≤ -w.c; omega, a1, b1, by rw [Int.neg_mul_neg]; omega⟩,
    ⟨-f4, e4, by show -w.d ≤ _; omega, by show _ ≤ -w.c; omega, a4, b4, by rw [Int.neg_mul, Int.mul_comm f4 e4]; omega⟩, ⟨-f3, e3, by show -w.d ≤ _; omega, by show _ ≤ -w.c; omega, a3, b3, by rw [Int.neg_mul, Int.mul_comm f3 e3]; omega⟩⟩
theorem mul_le_of_sq {e f Y : Int} (hY : 0 ≤ Y) (h : (e * e) * (f * f) ≤ Y * Y) (h0 : 0 ≤ e * f) : e * f ≤ Y := by
  refine sq_le h0 hY ?_
  rw [mmmc]; exact h
theorem RtIn.wit_up {s : Bx} {x y : Int} (h : RtIn s x y) (hy : 0 ≤ y) : Wit s x y := by
  obtain ⟨h1, h2⟩ := h.up hy
  have l1 := h.rl.pos
  have l2 := h1.pos
  have e0 : 0 ≤ mx s.a 0 ∧ s.a ≤ mx s.a 0 := by unfold mx; split <;> omega
  have f0 : 0 ≤ mx s.c 0 ∧ s.c ≤ mx s.c 0 := by unfold mx; split <;> omega
  have e1 : mx s.a 0 ≤ s.b := le_ge (.inr l1) h.rh
  have f1 : mx s.c 0 ≤ s.d := le_ge (.inr l2) h2
  have Y0 : 0 ≤ cc * y := Int.mul_nonneg (by decide) hy
  refine ⟨⟨mx s.a 0, s.d, e0.2, e1, by omega, by omega, la_hb l1 h2.2⟩, ⟨s.b, mx s.c 0, by omega, by omega, f0.2, f1, ha_lb h.rh.2 l2⟩,
    ⟨mx s.a 0, mx s.c 0, e0.2, e1, f0.2, f1, ?_⟩, ⟨s.b, s.d, by omega, by omega, by omega, by omega, ?_⟩⟩
  · exact mul_le_of_sq Y0 (la_lb l1 l2) (Int.mul_nonneg e0.1 f0.1)
  · refine sq_le Y0 (Int.mul_nonneg h.rh.1 h2.1) ?_
    rw [mmmc s.b]
    exact ha_hb h.rh.2 h2.2
theorem RtIn.wit {s : Bx} {x y : Int} (h : RtIn s x y) : Wit s x y := by
  by_cases hy : 0 ≤ y
  · exact h.wit_up hy
  · exact (h.conj.wit_up (by omega)).conj
theorem Wit.mul {s m : Bx} {x y : Int} (h : Wit s x y) (hm : MulOk s s m) : m.a ≤ x ∧ x ≤ m.b ∧ m.c ≤ y ∧ y ≤ m.d := by
  obtain ⟨⟨e1, f1, a1, b1, c1, d1, k1⟩, ⟨e2, f2, a2, b2, c2, d2, k2⟩, ⟨e3, f3, a3, b3, c3, d3, k3⟩, ⟨e4, f4, a4, b4, c4, d4, k4⟩⟩ := h
  have t1 := times_ok hm.c1 (by show s.a ≤ s.b; omega) (by show s.a ≤ s.b; omega)
  have t2 := times_ok hm.c2 (by show s.c ≤ s.d; omega) (by show s.c ≤ s.d; omega)
  have t3 := times_ok hm.c3 (by show s.a ≤ s.b; omega) (by show s.c ≤ s.d; omega)
  have t4 := times_ok hm.c4 (by show s.c ≤ s.d; omega) (by show s.a ≤ s.b; omega)
  have ea := hm.ea
  have eb := hm.eb
  have ec := hm.ec
  have ed := hm.ed
  unfold cc at k1 k2 k3 k4
  refine ⟨?_, ?_, ?_, ?_⟩
  · have i1 := t1.lo e1 e1 a1 b1 a1 b1
    have i2 := t2.hi f1 f1 c1 d1 c1 d1
    omega
  · have i1 := t1.hi e2 e2 a2 b2 a2 b2
    have i2 := t2.lo f2 f2 c2 d2 c2 d2
    omega
  · have i1 := t3.lo e3 f3 a3 b3 c3 d3
    have i2 := t4.lo f3 e3 c3 d3 a3 b3
    rw [Int.mul_comm f3] at i2
    omega
  · have i1 := t3.hi e4 f4 a4 b4 c4 d4
    have i2 := t4.hi f4 e4 c4 d4 a4 b4
    rw [Int.mul_comm f4] at i2
    omega

def rightF (a : Bx) : Bx :=
  ⟨(reF a.a (mx (mx a.c (-a.d)) 0)).lo, (reF a.b (mx a.d (-a.c))).hi, if a.c ≤ 0 then -(imF a.a a.c).hi else (imF a.b a.c).lo, if a.d ≥ 0 then (imF a.a a.d).hi else -(imF a.b a.d).lo, false⟩
def upperF (a : Bx) : Bx := ⟨(reF a.a a.c).lo, (reF a.b a.d).hi, (imF a.b a.c).lo, (imF a.a a.d).hi, false⟩
theorem cc_mono {x y : Int} (h : x ≤ y) : cc * x ≤ cc * y := by unfold cc; omega
theorem cc_sqm {x y : Int} (h1 : -y ≤ x) (h2 : x ≤ y) : cc * x * (cc * x) ≤ cc * y * (cc * y) := sq_le_sq (by unfold cc; omega) (by unfold cc; omega)
theorem cc_sqn {x y : Int} (h1 : y ≤ x) (h2 : x ≤ -y) : cc * x * (cc * x) ≤ cc * y * (cc * y) := by
  rw [← cc_neg_sq y]; exact cc_sqm (by omega) h2
theorem right_in {a : Bx} (h : 0 < a.a) {x y : Int} (h1 : a.a ≤ x) (h2 : x ≤ a.b) (h3 : a.c ≤ y) (h4 : y ≤ a.d) : RtIn (rightF a) x y := by
  have r1 := parts_rt (x := a.a) (y := mx (mx a.c (-a.d)) 0) (.inl (by omega))
  have r2 := parts_rt (x := a.b) (y := mx a.d (-a.c)) (.inl (by omega))
  have r3 := parts_rt (x := a.a) (y := a.c) (.inl (by omega))
  have r4 := parts_rt (x := a.b) (y := a.c) (.inl (by omega))
  have r5 := parts_rt (x := a.a) (y := a.d) (.inl (by omega))
  have r6 := parts_rt (x := a.b) (y := a.d) (.inl (by omega))
  have n1 : cc * mx (mx a.c (-a.d)) 0 * (cc * mx (mx a.c (-a.d)) 0) ≤ cc * y * (cc * y) := by
    by_cases hy : 0 ≤ y
    · refine cc_sqm ?_ ?_ <;> (unfold mx; (repeat' split) <;> omega)
    · refine cc_sqn ?_ ?_ <;> (unfold mx; (repeat' split) <;> omega)
  have n2 : cc * y * (cc * y) ≤ cc * mx a.d (-a.c) * (cc * mx a.d (-a.c)) := by
    refine cc_sqm ?_ ?_ <;> (unfold mx; (repeat' split) <;> omega)
  have m1 := cc_mono h1
  have m2 := cc_mono h2
  refine ⟨.inr (r1.ul.mono m1 n1), ⟨r2.uh0, r2.uh.mono m2 n2⟩, fun hy => ⟨?_, ?_⟩, fun hy => ⟨?_, ?_⟩⟩
  · show LeR (if a.c ≤ 0 then -(imF a.a a.c).hi else (imF a.b a.c).lo) _ _
    by_cases hc : a.c ≤ 0
    · rw [if_pos hc]; exact .inl (by have := r3.vh0; omega)
    · rw [if_neg hc]; exact .inr (r4.vl.mono (by omega) (cc_sqm (by omega) h3))
  · show GeR (if a.d ≥ 0 then (imF a.a a.d).hi else -(imF a.b a.d).lo) _ _
    rw [if_pos (by omega)]
    exact ⟨r5.vh0, r5.vh.mono (by omega) (cc_sqm (by omega) h4)⟩
  · show LeR (-(if a.d ≥ 0 then (imF a.a a.d).hi else -(imF a.b a.d).lo)) _ _
    by_cases hd : a.d ≥ 0
    · rw [if_pos hd]; exact .inl (by have := r5.vh0; omega)
    · rw [if_neg hd, Int.neg_neg]; exact .inr (r6.vl.mono (by omega) (cc_sqn (by omega) (by omega)))
  · show GeR (-(if a.c ≤ 0 then -(imF a.a a.c).hi else (imF a.b a.c).lo)) _ _
    rw [if_pos (by omega), Int.neg_neg]
    exact ⟨r3.vh0, r3.vh.mono (by omega) (cc_sqn (by omega) (by omega))⟩
theorem upper_in {a : Bx} (h : 0 < a.c) {x y : Int} (h1 : a.a ≤ x) (h2 : x ≤ a.b) (h3 : a.c ≤ y) (h4 : y ≤ a.d) : RtIn (upperF a) x y := by
  have r1 := parts_rt (x := a.a) (y := a.c) (.inr (by omega))
  have r2 := parts_rt (x := a.b) (y := a.d) (.inr (by omega))
  have r3 := parts_rt (x := a.b) (y := a.c) (.inr (by omega))
  have r4 := parts_rt (x := a.a) (y := a.d) (.inr (by omega))
  have m1 := cc_mono h1
  have m2 := cc_mono h2
  have n1 : cc * a.c * (cc * a.c) ≤ cc * y * (cc * y) := cc_sqm (by omega) h3
  have n2 : cc * y * (cc * y) ≤ cc * a.d * (cc * a.d) := cc_sqm (by omega) h4
  exact ⟨.inr (r1.ul.mono m1 n1), ⟨r2.uh0, r2.uh.mono m2 n2⟩, fun _ => ⟨.inr (r3.vl.mono (by omega) n1), r4.vh0, r4.vh.mono (by omega) n2⟩, fun hy => by omega⟩
end Ab
