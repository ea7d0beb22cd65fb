import Derived.Test.YtbcgkonhkoopnaaGreatXMulP
/-!
Operations on valid boxes: plain.
-/
open Go Go.Proofs
namespace Ab
set_option maxRecDepth 100000

theorem apply_vb {g : Bx → Bx → Bx} {x y : Bx} (hx : Vb x) (hy : Vb y) : applyF g x y = checkedF (g x y) := by
  unfold applyF
  rw [hx.checked, hy.checked, hx.1, hy.1]
theorem wide_ok : wideB.ok = true := by decide
theorem checked_wide : checkedF wideB = wideB := checked_of wide_ok
theorem checked_cases (z : Bx) : (checkedF z = wideB) ∨ (checkedF z = z ∧ Vb z) := by
  cases h : z.ok with
  | true =>
    cases hw : z.w with
    | true =>
      left
      rw [checked_of h]
      unfold Bx.ok validF at h
      rw [hw] at h
      obtain ⟨a, b, c, d, w⟩ := z
      simp only [Bool.and_eq_true, beq_iff_eq] at h hw
      obtain ⟨h1, h2, h3, h4, _⟩ := h
      subst h1; subst h2; subst h3; subst h4; subst hw
      rfl
    | false => exact .inr ⟨checked_of h, Vb.of hw h⟩
  | false => left; unfold checkedF; rw [h]
theorem inside_wide (x : Bx) : insideF x wideB = true := by
  unfold insideF; rw [checked_wide]; rfl

/-- each number of x is one of y -/
def In (x y : Bx) : Prop := y.a ≤ x.a ∧ x.b ≤ y.b ∧ y.c ≤ x.c ∧ x.d ≤ y.d
theorem inside_of {x y : Bx} (hx : Vb x) (hy : Vb y) (h : In x y) : insideF x y = true := (inside_iff hx hy).2 h
/-- a part of a valid box is valid -/
theorem vb_part {x y : Bx} (hy : Vb y) (h : In x y) (hw : x.w = false) (h1 : x.a ≤ x.b) (h2 : x.c ≤ x.d) : Vb x := by
  obtain ⟨_, _, _, g3, g4, g5, g6⟩ := hy
  obtain ⟨k1, k2, k3, k4⟩ := h
  exact ⟨hw, h1, h2, by omega, by omega, by omega, by omega⟩
/-- isotony, of results that are in order -/
theorem iso {x y : Bx} (h : Vb y → In x y ∧ x.w = false ∧ x.a ≤ x.b ∧ x.c ≤ x.d) : insideF (checkedF x) (checkedF y) = true := by
  rcases checked_cases y with e | ⟨e, hv⟩
  · rw [e]; exact inside_wide _
  · obtain ⟨k1, k2, k3, k4⟩ := h hv
    have hx := vb_part hv k1 k2 k3 k4
    rw [e, hx.checked]
    exact inside_of hx hv k1

theorem add_iso {a b c d : Bx} (ha : Vb a) (hb : Vb b) (hc : Vb c) (hd : Vb d) (h1 : In a c) (h2 : In b d) : insideF (applyF addF a b) (applyF addF c d) = true := by
  rw [apply_vb ha hb, apply_vb hc hd]
  refine iso fun hv => ?_
  obtain ⟨_, a1, a2, a3, a4, a5, a6⟩ := ha
  obtain ⟨_, b1, b2, b3, b4, b5, b6⟩ := hb
  obtain ⟨_, c1, c2, c3, c4, c5, c6⟩ := hc
  obtain ⟨_, d1, d2, d3, d4, d5, d6⟩ := hd
  obtain ⟨k1, k2, k3, k4⟩ := h1
  obtain ⟨l1, l2, l3, l4⟩ := h2
  unfold MF at *
  unfold addF In
  simp only
  rw [w64_eq (n := a.a + b.a) (by omega), w64_eq (n := a.b + b.b) (by omega), w64_eq (n := a.c + b.c) (by omega), w64_eq (n := a.d + b.d) (by omega)]
  rw [w64_eq (n := c.a + d.a) (by omega), w64_eq (n := c.b + d.b) (by omega), w64_eq (n := c.c + d.c) (by omega), w64_eq (n := c.d + d.d) (by omega)]
  refine ⟨⟨?_, ?_, ?_, ?_⟩, trivial, ?_, ?_⟩ <;> omega

theorem neg_vb {x : Bx} (hx : Vb x) : applyF (fun a _ => negF a) x x = ⟨-x.b, -x.a, -x.d, -x.c, false⟩ ∧ Vb ⟨-x.b, -x.a, -x.d, -x.c, false⟩ := by
  rw [apply_vb hx hx]
  obtain ⟨_, a1, a2, a3, a4, a5, a6⟩ := hx
  have e : negF x = ⟨-x.b, -x.a, -x.d, -x.c, false⟩ := by
    unfold MF at *
    unfold negF
    rw [w64_eq (n := 0 - x.b) (by omega), w64_eq (n := 0 - x.a) (by omega), w64_eq (n := 0 - x.d) (by omega), w64_eq (n := 0 - x.c) (by omega)]
    simp only [Int.zero_sub]
  have v : Vb ⟨-x.b, -x.a, -x.d, -x.c, false⟩ := ⟨rfl, by show -x.b ≤ -x.a; omega, by show -x.d ≤ -x.c; omega, by show -MF ≤ -x.b; omega, by show -x.a ≤ MF; omega, by show -MF ≤ -x.d; omega, by show -x.c ≤ MF; omega⟩
  rw [e]
  exact ⟨v.checked, v⟩

theorem sub_iso {a b c d : Bx} (ha : Vb a) (hb : Vb b) (hc : Vb c) (hd : Vb d) (h1 : In a c) (h2 : In b d) : insideF (subF a b) (subF c d) = true := by
  unfold subF
  obtain ⟨e1, v1⟩ := neg_vb hb
  obtain ⟨e2, v2⟩ := neg_vb hd
  rw [e1, e2]
  obtain ⟨k1, k2, k3, k4⟩ := h2
  exact add_iso ha v1 hc v2 h1 ⟨by show -d.b ≤ -b.b; omega, by show -b.a ≤ -d.a; omega, by show -d.d ≤ -b.d; omega, by show -b.c ≤ -d.c; omega⟩
theorem neg_iso {a c : Bx} (ha : Vb a) (hc : Vb c) (h1 : In a c) : insideF (applyF (fun a _ => negF a) a a) (applyF (fun a _ => negF a) c c) = true := by
  obtain ⟨e1, v1⟩ := neg_vb ha
  obtain ⟨e2, v2⟩ := neg_vb hc
  rw [e1, e2]
  obtain ⟨k1, k2, k3, k4⟩ := h1
  exact inside_of v1 v2 ⟨by show -c.b ≤ -a.b; omega, by show -a.a ≤ -c.a; omega, by show -c.d ≤ -a.d; omega, by show -a.c ≤ -c.c; omega⟩
theorem hull_iso {a b c d : Bx} (ha : Vb a) (hb : Vb b) (hc : Vb c) (hd : Vb d) (h1 : In a c) (h2 : In b d) : insideF (applyF hullF a b) (applyF hullF c d) = true := by
  obtain ⟨e1, v1⟩ := hull_vb ha hb
  obtain ⟨e2, v2⟩ := hull_vb hc hd
  rw [e1, e2]
  obtain ⟨k1, k2, k3, k4⟩ := h1
  obtain ⟨l1, l2, l3, l4⟩ := h2
  refine inside_of v1 v2 ?_
  unfold hullF In
  simp only
  refine ⟨?_, ?_, ?_, ?_⟩ <;> (repeat' split) <;> omega

/-- a product that is not wide -/
structure MulOk (x y m : Bx) : Prop where
  vb : Vb m
  c1 : Corners ⟨x.a, x.b⟩ ⟨y.a, y.b⟩
  c2 : Corners ⟨x.c, x.d⟩ ⟨y.c, y.d⟩
  c3 : Corners ⟨x.a, x.b⟩ ⟨y.c, y.d⟩
  c4 : Corners ⟨x.c, x.d⟩ ⟨y.a, y.b⟩
  ea : m.a = (timesF ⟨x.a, x.b⟩ ⟨y.a, y.b⟩).lo - (timesF ⟨x.c, x.d⟩ ⟨y.c, y.d⟩).hi
  eb : m.b = (timesF ⟨x.a, x.b⟩ ⟨y.a, y.b⟩).hi - (timesF ⟨x.c, x.d⟩ ⟨y.c, y.d⟩).lo
  ec : m.c = (timesF ⟨x.a, x.b⟩ ⟨y.c, y.d⟩).lo + (timesF ⟨x.c, x.d⟩ ⟨y.a, y.b⟩).lo
  ed : m.d = (timesF ⟨x.a, x.b⟩ ⟨y.c, y.d⟩).hi + (timesF ⟨x.c, x.d⟩ ⟨y.a, y.b⟩).hi
def mulG (x y : Bx) : Bx :=
  ⟨(timesF ⟨x.a, x.b⟩ ⟨y.a, y.b⟩).lo - (timesF ⟨x.c, x.d⟩ ⟨y.c, y.d⟩).hi, (timesF ⟨x.a, x.b⟩ ⟨y.a, y.b⟩).hi - (timesF ⟨x.c, x.d⟩ ⟨y.c, y.d⟩).lo,
      (timesF ⟨x.a, x.b⟩ ⟨y.c, y.d⟩).lo + (timesF ⟨x.c, x.d⟩ ⟨y.a, y.b⟩).lo, (timesF ⟨x.a, x.b⟩ ⟨y.c, y.d⟩).hi + (timesF ⟨x.c, x.d⟩ ⟨y.a, y.b⟩).hi, false⟩
theorem out_le {s : Sp} (h : outF s = false) : -MF ≤ s.lo ∧ s.hi ≤ MF := by
  unfold outF at h
  simp only [Bool.or_eq_false_iff, decide_eq_false_iff_not, Int.not_lt, gt_iff_lt] at h
  exact h
theorem mulF_cases {x y : Bx} (hx : Vb x) (hy : Vb y) : mulF x y = wideB ∨ (mulF x y = mulG x y ∧ (mulG x y).a ≤ (mulG x y).b ∧ (mulG x y).c ≤ (mulG x y).d ∧
    Corners ⟨x.a, x.b⟩ ⟨y.a, y.b⟩ ∧ Corners ⟨x.c, x.d⟩ ⟨y.c, y.d⟩ ∧ Corners ⟨x.a, x.b⟩ ⟨y.c, y.d⟩ ∧ Corners ⟨x.c, x.d⟩ ⟨y.a, y.b⟩) := by
  unfold mulF
  cases h : or (outF (timesF ⟨x.a, x.b⟩ ⟨y.a, y.b⟩)) (or (outF (timesF ⟨x.c, x.d⟩ ⟨y.c, y.d⟩)) (or (outF (timesF ⟨x.a, x.b⟩ ⟨y.c, y.d⟩)) (outF (timesF ⟨x.c, x.d⟩ ⟨y.a, y.b⟩)))) with
  | true => exact .inl rfl
  | false =>
    right
    simp only [Bool.or_eq_false_iff] at h
    obtain ⟨h1, h2, h3, h4⟩ := h
    have k1 := (out_iff _ _).1 h1
    have k2 := (out_iff _ _).1 h2
    have k3 := (out_iff _ _).1 h3
    have k4 := (out_iff _ _).1 h4
    obtain ⟨_, x1, x2, _⟩ := hx
    obtain ⟨_, y1, y2, _⟩ := hy
    have l1 := (times_ok k1 x1 y1).le
    have l2 := (times_ok k2 x2 y2).le
    have l3 := (times_ok k3 x1 y2).le
    have l4 := (times_ok k4 x2 y1).le
    unfold mulG
    simp only
    generalize timesF ⟨x.a, x.b⟩ ⟨y.a, y.b⟩ = t1 at l1 ⊢
    generalize timesF ⟨x.c, x.d⟩ ⟨y.c, y.d⟩ = t2 at l2 ⊢
    generalize timesF ⟨x.a, x.b⟩ ⟨y.c, y.d⟩ = t3 at l3 ⊢
    generalize timesF ⟨x.c, x.d⟩ ⟨y.a, y.b⟩ = t4 at l4 ⊢
    unfold MF at l1 l2 l3 l4
    refine ⟨?_, by omega, by omega, k1, k2, k3, k4⟩
    rw [w64_eq (n := t1.lo - t2.hi) (by omega), w64_eq (n := t1.hi - t2.lo) (by omega), w64_eq (n := t3.lo + t4.lo) (by omega), w64_eq (n := t3.hi + t4.hi) (by omega)]
theorem mul_cases {x y : Bx} (hx : Vb x) (hy : Vb y) : applyF mulF x y = wideB ∨ MulOk x y (applyF mulF x y) := by
  rw [apply_vb hx hy]
  rcases mulF_cases hx hy with e | ⟨e, _, _, k1, k2, k3, k4⟩
  · left; rw [e]; exact checked_wide
  · rw [e]
    rcases checked_cases (mulG x y) with e | ⟨e, hv⟩
    · exact .inl e
    · right; rw [e]; exact ⟨hv, k1, k2, k3, k4, rfl, rfl, rfl, rfl⟩
theorem mul_iso {a b c d : Bx} (ha : Vb a) (hb : Vb b) (hc : Vb c) (hd : Vb d) (h1 : In a c) (h2 : In b d) : insideF (applyF mulF a b) (applyF mulF c d) = true := by
  rw [apply_vb ha hb, apply_vb hc hd]
  rcases mulF_cases hc hd with e | ⟨e, _, _, k1, k2, k3, k4⟩
  · rw [e, checked_wide]; exact inside_wide _
  · rw [e]
    obtain ⟨i1, i2, i3, i4⟩ := h1
    obtain ⟨j1, j2, j3, j4⟩ := h2
    obtain ⟨_, a1, a2, _⟩ := id ha
    obtain ⟨_, b1, b2, _⟩ := id hb
    have n1 := corners_mono (a := ⟨a.a, a.b⟩) (b := ⟨b.a, b.b⟩) k1 i1 i2 j1 j2 a1 b1
    have n2 := corners_mono (a := ⟨a.c, a.d⟩) (b := ⟨b.c, b.d⟩) k2 i3 i4 j3 j4 a2 b2
    have n3 := corners_mono (a := ⟨a.a, a.b⟩) (b := ⟨b.c, b.d⟩) k3 i1 i2 j3 j4 a1 b2
    have n4 := corners_mono (a := ⟨a.c, a.d⟩) (b := ⟨b.a, b.b⟩) k4 i3 i4 j1 j2 a2 b1
    have m1 := times_mono (a := ⟨a.a, a.b⟩) (b := ⟨b.a, b.b⟩) k1 i1 i2 j1 j2 a1 b1
    have m2 := times_mono (a := ⟨a.c, a.d⟩) (b := ⟨b.c, b.d⟩) k2 i3 i4 j3 j4 a2 b2
    have m3 := times_mono (a := ⟨a.a, a.b⟩) (b := ⟨b.c, b.d⟩) k3 i1 i2 j3 j4 a1 b2
    have m4 := times_mono (a := ⟨a.c, a.d⟩) (b := ⟨b.a, b.b⟩) k4 i3 i4 j1 j2 a2 b1
    have o : mulF a b = mulG a b ∧ (mulG a b).a ≤ (mulG a b).b ∧ (mulG a b).c ≤ (mulG a b).d := by
      rcases mulF_cases ha hb with e | ⟨e, f1, f2, _⟩
      · exfalso
        have q1 := (out_iff _ _).2 n1
        have q2 := (out_iff _ _).2 n2
        have q3 := (out_iff _ _).2 n3
        have q4 := (out_iff _ _).2 n4
        unfold mulF at e
        rw [q1, q2, q3, q4] at e
        exact absurd (congrArg Bx.w e) (by simp [wideB])
      · exact ⟨e, f1, f2⟩
    obtain ⟨o1, o2, o3⟩ := o
    rw [o1]
    refine iso fun _ => ⟨?_, rfl, o2, o3⟩
    unfold mulG In
    simp only
    refine ⟨?_, ?_, ?_, ?_⟩ <;> omega
end Ab
