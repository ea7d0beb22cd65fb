import Derived.Test.YtbcgkonhkoopnaaGreatXSqrtS
/-!
The plain law of BoxRoots.
-/
open Go Go.Proofs
namespace Ab
set_option maxRecDepth 100000

/-- the number p + i q is in the box -/
def Has (x : Bx) (p q : Int) : Prop := x.a ≤ p ∧ p ≤ x.b ∧ x.c ≤ q ∧ q ≤ x.d
theorem ccn (p : Int) : cc * -p = -(cc * p) := Int.mul_neg _ _
theorem rot_up {w : Bx} {p q : Int} (h : RtIn w (-p) (-q)) (hq : 0 < q) : RtIn (rotF w) p q := by
  obtain ⟨d1, d2⟩ := h.dn (by omega)
  have e : -(cc * -p) = cc * p := by rw [ccn, Int.neg_neg]
  rw [e] at d1 d2
  have r1 := h.rl
  have r2 := h.rh
  rw [ccn p] at r1 r2
  have d1 := d1.conj; have d2 := d2.conj; have r1 := r1.conj; have r2 := r2.conj
  rw [Int.neg_neg] at d1 d2 r1 r2
  exact ⟨d1, d2, fun _ => ⟨r1, r2⟩, fun g => by omega⟩
theorem rot_dn {w : Bx} {p q : Int} (h : RtIn w (-p) (-q)) (hq : q < 0) : RtIn (ngB (rotF w)) p q := by
  obtain ⟨d1, d2⟩ := h.up (by omega)
  have e : -(cc * -p) = cc * p := by rw [ccn, Int.neg_neg]
  rw [e] at d1 d2
  have r1 := h.rl
  have r2 := h.rh
  rw [ccn p] at r1 r2
  have d1 := d1.conj; have d2 := d2.conj; have r1 := r1.conj; have r2 := r2.conj
  rw [Int.neg_neg] at d1 d2 r1 r2
  refine ⟨?_, ?_, fun g => by omega, fun _ => ⟨?_, ?_⟩⟩
  · show LeR (- -w.c) _ _
    rw [Int.neg_neg]; exact d1
  · show GeR (- -w.d) _ _
    rw [Int.neg_neg]; exact d2
  · show LeR (- -w.a) _ _
    rw [Int.neg_neg]; exact r1
  · show GeR (- -w.b) _ _
    rw [Int.neg_neg]; exact r2

/-- no zero in the box -/
def Nz (x : Bx) : Prop := 0 < x.a ∨ x.b < 0 ∨ 0 < x.c ∨ x.d < 0
theorem nz_of {x : Bx} (hx : Vb x) (h : meetsF x zeroB = false) : Nz x := by
  unfold Nz
  refine Decidable.byContradiction fun g => ?_
  have := (meets_vb hx zero_vb).2 (show x.a ≤ 0 ∧ 0 ≤ x.b ∧ x.c ≤ 0 ∧ 0 ≤ x.d by omega)
  rw [show (⟨0, 0, 0, 0, false⟩ : Bx) = zeroB from rfl, h] at this
  cases this
theorem nz_zero {x : Bx} (hx : Vb x) (h : Nz x) : meetsF x zeroB = false := by
  cases e : meetsF x zeroB with
  | false => rfl
  | true =>
    have := (meets_vb hx zero_vb).1 e
    unfold Nz at h
    simp only at this
    omega
theorem Nz.part {x y : Bx} (h : Nz y) (hi : In x y) : Nz x := by
  obtain ⟨h1, h2, h3, h4⟩ := hi
  unfold Nz at *
  omega

theorem root_right {x : Bx} (h : 0 < x.a) : rootF x = rightF x := by unfold rootF; rw [if_pos h]
theorem root_left {x : Bx} (hx : Vb x) (h : x.b < 0) : rootF x = rotF (rightF (ngB x)) := by
  unfold rootF
  have := hx.2.1
  rw [if_neg (by omega), if_pos h]
theorem root_upper {x : Bx} (h1 : ¬ 0 < x.a) (h2 : ¬ x.b < 0) (h : 0 < x.c) : rootF x = upperF x := by unfold rootF; rw [if_neg h1, if_neg h2, if_pos h]
theorem root_lower {x : Bx} (h1 : ¬ 0 < x.a) (h2 : ¬ x.b < 0) (h : ¬ 0 < x.c) : rootF x = conjF (upperF (conjF x)) := by unfold rootF; rw [if_neg h1, if_neg h2, if_neg h]

theorem at_right {x : Bx} (h : 0 < x.a) {p q : Int} (hp : Has x p q) : RtIn (rootF x) p q := by
  rw [root_right h]; exact right_in h hp.1 hp.2.1 hp.2.2.1 hp.2.2.2
theorem at_left {x : Bx} (hx : Vb x) (h : x.b < 0) {p q : Int} (hp : Has x p q) : ∃ w, rootF x = rotF w ∧ RtIn w (-p) (-q) := by
  obtain ⟨h1, h2, h3, h4⟩ := hp
  refine ⟨_, root_left hx h, right_in (a := ngB x) ?_ ?_ ?_ ?_ ?_⟩
  · show 0 < -x.b; omega
  · show -x.b ≤ -p; omega
  · show -p ≤ -x.a; omega
  · show -x.d ≤ -q; omega
  · show -q ≤ -x.c; omega
theorem at_mid {x : Bx} (h1 : ¬ 0 < x.a) (h2 : ¬ x.b < 0) (hz : Nz x) {p q : Int} (hp : Has x p q) : RtIn (rootF x) p q := by
  obtain ⟨g1, g2, g3, g4⟩ := hp
  by_cases h : 0 < x.c
  · rw [root_upper h1 h2 h]; exact upper_in h g1 g2 g3 g4
  · rw [root_lower h1 h2 h]
    have hd : 0 < (conjF x).c := by
      show 0 < -x.d
      unfold Nz at hz; omega
    have := (upper_in (a := conjF x) hd (x := p) (y := -q) g1 g2 (show -x.d ≤ -q by omega) (show -q ≤ -x.c by omega)).conj
    rwa [Int.neg_neg] at this
theorem root_wit {x : Bx} (hx : Vb x) (hz : Nz x) {p q : Int} (hp : Has x p q) : Wit (rootF x) p q := by
  by_cases h1 : 0 < x.a
  · exact (at_right h1 hp).wit
  · by_cases h2 : x.b < 0
    · obtain ⟨w, e, h⟩ := at_left hx h2 hp
      rw [e]; exact h.wit.rot
    · exact (at_mid h1 h2 hz hp).wit
theorem wit_le {s : Bx} {p q : Int} (h : Wit s p q) : s.a ≤ s.b ∧ s.c ≤ s.d := by
  obtain ⟨⟨e, f, h1, h2, h3, h4, _⟩, _⟩ := h
  omega
theorem root_vb {x : Bx} (hx : Vb x) (hz : Nz x) : Vb (rootF x) := by
  have l := wit_le (root_wit hx hz (p := x.a) (q := x.c) ⟨Int.le_refl _, hx.2.1, Int.le_refl _, hx.2.2.1⟩)
  have key : (-35184372088832 ≤ (rootF x).a ∧ (rootF x).b ≤ 35184372088832 ∧ -35184372088832 ≤ (rootF x).c ∧ (rootF x).d ≤ 35184372088832) ∧ (rootF x).w = false := by
    by_cases h1 : 0 < x.a
    · rw [root_right h1]
      have t := right_tiny hx h1
      refine ⟨by omega, rfl⟩
    · by_cases h2 : x.b < 0
      · rw [root_left hx h2]
        have t := right_tiny (ngB_vb hx) (by show 0 < -x.b; omega)
        refine ⟨?_, rfl⟩
        unfold rotF
        simp only
        omega
      · by_cases h3 : 0 < x.c
        · rw [root_upper h1 h2 h3]
          have t := upper_tiny hx h3
          refine ⟨by omega, rfl⟩
        · rw [root_lower h1 h2 h3]
          have t := upper_tiny (conj_vb hx) (by show 0 < -x.d; unfold Nz at hz; omega)
          refine ⟨?_, rfl⟩
          show -35184372088832 ≤ (upperF (conjF x)).a ∧ (upperF (conjF x)).b ≤ 35184372088832 ∧ -35184372088832 ≤ -(upperF (conjF x)).d ∧ -(upperF (conjF x)).c ≤ 35184372088832
          omega
  refine ⟨key.2, l.1, l.2, ?_, ?_, ?_, ?_⟩ <;> (unfold MF; omega)
theorem root_sq {x : Bx} (hx : Vb x) (hz : Nz x) : insideF x (applyF mulF (rootF x) (rootF x)) = true := by
  have hv := root_vb hx hz
  rcases mul_cases hv hv with e | h
  · rw [e]; exact inside_wide x
  · have a := (root_wit hx hz (p := x.a) (q := x.c) ⟨Int.le_refl _, hx.2.1, Int.le_refl _, hx.2.2.1⟩).mul h
    have b := (root_wit hx hz (p := x.b) (q := x.d) ⟨hx.2.1, Int.le_refl _, hx.2.2.1, Int.le_refl _⟩).mul h
    exact inside_of hx h.vb ⟨a.1, b.2.1, a.2.2.1, b.2.2.2⟩
theorem rt_meets {s t : Bx} (hs : Vb s) (ht : Vb t) {p q : Int} (h : RtIn s p q) (g : RtIn t p q) : meetsF s t = true := by
  obtain ⟨a1, a2⟩ := h.meets g
  obtain ⟨b1, b2⟩ := g.meets h
  exact (meets_vb hs ht).2 ⟨a1, b1, a2, b2⟩
theorem rt_meets_rot {s t : Bx} (hs : Vb (rotF s)) (ht : Vb (rotF t)) {p q : Int} (h : RtIn s p q) (g : RtIn t p q) : meetsF (rotF s) (rotF t) = true := by
  obtain ⟨a1, a2⟩ := h.meets g
  obtain ⟨b1, b2⟩ := g.meets h
  exact (meets_vb hs ht).2 ⟨show -s.d ≤ -t.c by omega, show -t.d ≤ -s.c by omega, a1, b1⟩
theorem roots_meet {x y : Bx} (hx : Vb x) (hy : Vb y) (hi : In y x) (hz : Nz x) : meetsF (rootF x) (rootF y) = true ∨ meetsF (rootF x) (ngB (rootF y)) = true := by
  have hzy := hz.part hi
  have vx := root_vb hx hz
  have vy := root_vb hy hzy
  obtain ⟨i1, i2, i3, i4⟩ := hi
  have l1 := hy.2.1
  have l2 := hy.2.2.1
  have py : Has y y.a y.c := ⟨Int.le_refl _, l1, Int.le_refl _, l2⟩
  have px : Has x y.a y.c := ⟨i1, by omega, i3, by omega⟩
  by_cases h1 : 0 < x.a
  · exact .inl (rt_meets vx vy (at_right h1 px) (at_right (by omega) py))
  · by_cases h2 : x.b < 0
    · obtain ⟨w, e, h⟩ := at_left hx h2 px
      obtain ⟨v, f, g⟩ := at_left hy (by omega) py
      left
      rw [e] at vx ⊢
      rw [f] at vy ⊢
      exact rt_meets_rot vx vy h g
    · have hX := at_mid h1 h2 hz px
      by_cases k1 : 0 < y.a
      · exact .inl (rt_meets vx vy hX (at_right k1 py))
      · by_cases k2 : y.b < 0
        · obtain ⟨v, f, g⟩ := at_left hy k2 py
          have vn := ngB_vb vy
          by_cases hq : 0 < y.c
          · left
            rw [f] at vy ⊢
            exact rt_meets vx vy hX (rot_up g hq)
          · right
            have hq : y.c < 0 := by unfold Nz at hz; omega
            rw [f] at vn ⊢
            exact rt_meets vx vn hX (rot_dn g hq)
        · exact .inl (rt_meets vx vy hX (at_mid k1 k2 hzy py))
end Ab
