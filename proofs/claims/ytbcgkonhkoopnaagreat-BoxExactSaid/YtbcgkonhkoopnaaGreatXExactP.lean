import Derived.Test.YtbcgkonhkoopnaaGreatXMulQ
/-!
The box of a fraction: plain.
-/
open Go Go.Proofs
namespace Ab

/-- the floor, in units -/
def fl (N D : Int) : Int := N * 16777216 / D
theorem fl_le {N D : Int} (h : 0 < D) : fl N D * D ≤ N * 16777216 := Int.ediv_mul_le _ (by omega)
theorem lt_fl {N D : Int} (h : 0 < D) : N * 16777216 < (fl N D + 1) * D := Int.lt_ediv_add_one_mul_self _ h
theorem le_fl {N D k : Int} (h : 0 < D) : k ≤ fl N D ↔ k * D ≤ N * 16777216 := Int.le_ediv_iff_mul_le h
theorem fl_red {S Q g : Int} (hg : 0 < g) (h1 : g ∣ S) (h2 : g ∣ Q) : fl (S / g) (Q / g) = fl S Q := by
  obtain ⟨s, rfl⟩ := h1
  obtain ⟨q, rfl⟩ := h2
  rw [Int.mul_ediv_cancel_left _ (by omega), Int.mul_ediv_cancel_left _ (by omega)]
  unfold fl
  rw [Int.mul_assoc, Int.mul_ediv_mul_of_pos _ _ hg]
theorem fl_sum {N D M F : Int} (hD : 0 < D) (hF : 0 < F) : fl N D + fl M F ≤ fl (N * F + M * D) (D * F) := by
  rw [le_fl (Int.mul_pos hD hF)]
  have a := Int.mul_le_mul_of_nonneg_right (fl_le (N := N) hD) (Int.le_of_lt hF)
  have b := Int.mul_le_mul_of_nonneg_right (fl_le (N := M) hF) (Int.le_of_lt hD)
  generalize fl N D = x at *
  generalize fl M F = y at *
  have e : (x + y) * (D * F) = x * D * F + y * F * D := by grind
  have e2 : (N * F + M * D) * 16777216 = N * 16777216 * F + M * 16777216 * D := by grind
  omega
theorem fl_width {N D : Int} (hD : 0 < D) : fl N D ≤ -fl (-N) D ∧ -fl (-N) D ≤ fl N D + 1 := by
  have a := fl_le (N := N) hD
  have b := fl_le (N := -N) hD
  have c := lt_fl (N := N) hD
  have d := lt_fl (N := -N) hD
  generalize fl N D = x at *
  generalize fl (-N) D = y at *
  have e1 : (x + y) * D ≤ 0 * D := by rw [Int.add_mul]; omega
  have e2 : 0 * D < (x + y + 2) * D := by
    have : (x + y + 2) * D = (x + 1) * D + (y + 1) * D := by grind
    omega
  have f1 := Int.le_of_mul_le_mul_right e1 hD
  have f2 := Int.lt_of_mul_lt_mul_right e2 (Int.le_of_lt hD)
  omega
theorem fl_bd {N D K : Int} (hD : 0 < D) (hK : 0 ≤ K) (h1 : -K ≤ N) (h2 : N ≤ K) : -(K * 16777216) ≤ fl N D ∧ fl N D ≤ K * 16777216 := by
  have a := fl_le (N := N) hD
  constructor
  · rw [le_fl hD]
    have : K * 16777216 * 1 ≤ K * 16777216 * D := Int.mul_le_mul_of_nonneg_left (by omega) (by omega)
    rw [Int.neg_mul]
    omega
  · refine Int.not_lt.1 fun g => ?_
    have : fl N D * 1 ≤ fl N D * D := Int.mul_le_mul_of_nonneg_left (by omega) (by omega)
    omega
/-- the box of a number -/
def exB (N D : Int) : Bx := ⟨fl N D, -fl (-N) D, 0, 0, false⟩
def ExOk (N D : Int) : Prop := (-MF ≤ fl N D ∧ fl N D ≤ MF) ∧ (-MF ≤ fl (-N) D ∧ fl (-N) D ≤ MF)
theorem exB_vb {N D : Int} (hD : 0 < D) (h : ExOk N D) : Vb (exB N D) := by
  have w := fl_width (N := N) hD
  obtain ⟨⟨h1, h2⟩, h3, h4⟩ := h
  refine ⟨rfl, w.1, Int.le_refl 0, h1, ?_, by show -MF ≤ 0; unfold MF; decide, by show 0 ≤ MF; unfold MF; decide⟩
  show -fl (-N) D ≤ MF
  omega
theorem prod_lo {N D M F m x1 x2 y1 y2 : Int} (hD : 0 < D) (hF : 0 < F) (h1 : m * 16777216 ≤ x1 * y1) (h2 : m * 16777216 ≤ x1 * y2) (h3 : m * 16777216 ≤ x2 * y1) (h4 : m * 16777216 ≤ x2 * y2)
    (a1 : x1 * D ≤ N * 16777216) (a2 : N * 16777216 ≤ x2 * D) (b1 : y1 * F ≤ M * 16777216) (b2 : M * 16777216 ≤ y2 * F) : m * (D * F) ≤ N * M * 16777216 := by
  have q0 := Int.le_of_lt (Int.mul_pos hD hF)
  have k : ∀ {u v : Int}, m * 16777216 ≤ u * v → m * 16777216 * (D * F) ≤ (u * D) * (v * F) := fun {u v} h => by
    have := Int.mul_le_mul_of_nonneg_right h q0
    rw [show (u * D) * (v * F) = u * v * (D * F) by grind]
    exact this
  have := bil_lo (k h1) (k h2) (k h3) (k h4) a1 a2 b1 b2
  refine Int.le_of_mul_le_mul_right (a := 16777216) ?_ (by decide)
  rw [show N * M * 16777216 * 16777216 = N * 16777216 * (M * 16777216) by grind, show m * (D * F) * 16777216 = m * 16777216 * (D * F) by grind]
  exact this
theorem prod_hi {N D M F m x1 x2 y1 y2 : Int} (hD : 0 < D) (hF : 0 < F) (h1 : x1 * y1 ≤ m * 16777216) (h2 : x1 * y2 ≤ m * 16777216) (h3 : x2 * y1 ≤ m * 16777216) (h4 : x2 * y2 ≤ m * 16777216)
    (a1 : x1 * D ≤ N * 16777216) (a2 : N * 16777216 ≤ x2 * D) (b1 : y1 * F ≤ M * 16777216) (b2 : M * 16777216 ≤ y2 * F) : N * M * 16777216 ≤ m * (D * F) := by
  have q0 := Int.le_of_lt (Int.mul_pos hD hF)
  have k : ∀ {u v : Int}, u * v ≤ m * 16777216 → (u * D) * (v * F) ≤ m * 16777216 * (D * F) := fun {u v} h => by
    have := Int.mul_le_mul_of_nonneg_right h q0
    rw [show (u * D) * (v * F) = u * v * (D * F) by grind]
    exact this
  have := bil_hi (k h1) (k h2) (k h3) (k h4) a1 a2 b1 b2
  refine Int.le_of_mul_le_mul_right (a := 16777216) ?_ (by decide)
  rw [show N * M * 16777216 * 16777216 = N * 16777216 * (M * 16777216) by grind, show m * (D * F) * 16777216 = m * 16777216 * (D * F) by grind]
  exact this
theorem exB_ends {N D : Int} (hD : 0 < D) : (exB N D).a * D ≤ N * 16777216 ∧ N * 16777216 ≤ (exB N D).b * D := by
  have a := fl_le (N := N) hD
  have b := fl_le (N := -N) hD
  refine ⟨a, ?_⟩
  show N * 16777216 ≤ -fl (-N) D * D
  rw [Int.neg_mul]
  omega
theorem zero_at {s : Sp} (lo_at : ∃ x y : Int, (y = 0 ∨ y = 0) ∧ s.lo = Fl24 (x * y)) (hi_at : ∃ x y : Int, (y = 0 ∨ y = 0) ∧ s.hi = Ce24 (x * y)) : s.lo = 0 ∧ s.hi = 0 := by
  obtain ⟨x, y, hy, e⟩ := lo_at
  obtain ⟨x2, y2, hy2, e2⟩ := hi_at
  have e3 : y = 0 := by omega
  have e4 : y2 = 0 := by omega
  rw [e, e2, e3, e4, Int.mul_zero, Int.mul_zero]
  decide
theorem ex_prod {N D M F : Int} {m : Bx} (hD : 0 < D) (hF : 0 < F) (h : MulOk (exB N D) (exB M F) m) : m.a ≤ fl (N * M) (D * F) ∧ -fl (-(N * M)) (D * F) ≤ m.b ∧ m.c = 0 ∧ m.d = 0 := by
  have wx := (fl_width (N := N) hD).1
  have wy := (fl_width (N := M) hF).1
  have t1 := times_ok h.c1 wx wy
  have t2 := times_ok h.c2 (Int.le_refl 0) (Int.le_refl 0)
  have t3 := times_ok h.c3 wx (Int.le_refl 0)
  have t4 := times_ok h.c4 (Int.le_refl 0) wy
  have q0 := Int.mul_pos hD hF
  obtain ⟨a1, a2⟩ := exB_ends (N := N) hD
  obtain ⟨b1, b2⟩ := exB_ends (N := M) hF
  have z2 := zero_at (s := timesF ⟨(exB N D).c, (exB N D).d⟩ ⟨(exB M F).c, (exB M F).d⟩) (by obtain ⟨x, y, _, hy, e⟩ := t2.lo_at; exact ⟨x, y, hy, e⟩) (by obtain ⟨x, y, _, hy, e⟩ := t2.hi_at; exact ⟨x, y, hy, e⟩)
  have z3 := zero_at (s := timesF ⟨(exB N D).a, (exB N D).b⟩ ⟨(exB M F).c, (exB M F).d⟩) (by obtain ⟨x, y, _, hy, e⟩ := t3.lo_at; exact ⟨x, y, hy, e⟩) (by obtain ⟨x, y, _, hy, e⟩ := t3.hi_at; exact ⟨x, y, hy, e⟩)
  have z4 := zero_at (s := timesF ⟨(exB N D).c, (exB N D).d⟩ ⟨(exB M F).a, (exB M F).b⟩) (by obtain ⟨x, y, hx, _, e⟩ := t4.lo_at; exact ⟨y, x, hx, by rw [Int.mul_comm]; exact e⟩) (by obtain ⟨x, y, hx, _, e⟩ := t4.hi_at; exact ⟨y, x, hx, by rw [Int.mul_comm]; exact e⟩)
  have ea := h.ea
  have eb := h.eb
  have ec := h.ec
  have ed := h.ed
  rw [z2.2] at ea
  rw [z2.1] at eb
  rw [z3.1, z4.1] at ec
  rw [z3.2, z4.2] at ed
  have L : ∀ u v, (u = (exB N D).a ∨ u = (exB N D).b) → (v = (exB M F).a ∨ v = (exB M F).b) → m.a * 16777216 ≤ u * v ∧ u * v ≤ m.b * 16777216 := by
    intro u v hu hv
    rw [ea, eb, Int.sub_zero, Int.sub_zero]
    have wx' : (exB N D).a ≤ (exB N D).b := wx
    have wy' : (exB M F).a ≤ (exB M F).b := wy
    exact ⟨t1.lo u v (by show (exB N D).a ≤ u; omega) (by show u ≤ (exB N D).b; omega) (by show (exB M F).a ≤ v; omega) (by show v ≤ (exB M F).b; omega), t1.hi u v (by show (exB N D).a ≤ u; omega) (by show u ≤ (exB N D).b; omega) (by show (exB M F).a ≤ v; omega) (by show v ≤ (exB M F).b; omega)⟩
  have l1 := L _ _ (.inl rfl) (.inl rfl)
  have l2 := L _ _ (.inl rfl) (.inr rfl)
  have l3 := L _ _ (.inr rfl) (.inl rfl)
  have l4 := L _ _ (.inr rfl) (.inr rfl)
  refine ⟨?_, ?_, by rw [ec]; decide, by rw [ed]; decide⟩
  · rw [le_fl q0]
    exact prod_lo hD hF l1.1 l2.1 l3.1 l4.1 a1 a2 b1 b2
  · have := prod_hi hD hF l1.2 l2.2 l3.2 l4.2 a1 a2 b1 b2
    have g : -m.b ≤ fl (-(N * M)) (D * F) := by
      rw [le_fl q0, Int.neg_mul, Int.neg_mul]
      omega
    omega
end Ab
