import Derived.Test.YtbcgkonhkoopnaaGreatXMulP
open Go Go.Proofs
namespace Ab
set_option maxRecDepth 100000
theorem apply_vb {g : Bx -> Bx -> Bx} {x y : Bx} (hx : Vb x) (hy : Vb y) : applyF g x y = checkedF (g x y) := by
 unfold applyF
 rw [hx.checked, hy.checked, hx.1, hy.1]
theorem wide_ok : wideB.ok = true := by decide
theorem checked_wide : checkedF wideB = wideB := checked_of wide_ok
theorem checked_cases (z : Bx) : (checkedF z = wideB) ∨ (checkedF z = z ∧ Vb z) := by
 cases h : z.ok with
 | true =>
  cases hw : z.w with
  | true =>
   left
   rw [checked_of h]
   unfold Bx.ok validF at h
   rw [hw] at h
   obtain ⟨a, b, c, d, w⟩ := z
   simp only [Bool.and_eq_true, beq_iff_eq] at h hw
   obtain ⟨h1, h2, h3, h4, _⟩ := h
   subst h1; subst h2; subst h3; subst h4; subst hw
   rfl
  | false => exact .inr ⟨checked_of h, Vb.of hw h⟩
 | false => left; unfold checkedF; rw [h]
theorem neg_vb {x : Bx} (hx : Vb x) : applyF (fun a _ => negF a) x x = ⟨-x.b, -x.a, -x.d, -x.c, false⟩ ∧ Vb ⟨-x.b, -x.a, -x.d, -x.c, false⟩ := by
 rw [apply_vb hx hx]
 obtain ⟨_, a1, a2, a3, a4, a5, a6⟩ := hx
 have e : negF x = ⟨-x.b, -x.a, -x.d, -x.c, false⟩ := by
  unfold MF at *
  unfold negF
  rw [w64_eq (n := 0 - x.b) (by omega), w64_eq (n := 0 - x.a) (by omega), w64_eq (n := 0 - x.d) (by omega), w64_eq (n := 0 - x.c) (by omega)]
  simp only [Int.zero_sub]
 have v : Vb ⟨-x.b, -x.a, -x.d, -x.c, false⟩ := ⟨rfl, by show -x.b <= -x.a; omega, by show -x.d <= -x.c; omega, by show -MF <= -x.b; omega, by show -x.a <= MF; omega, by show -MF <= -x.d; omega, by show -x.c <= MF; omega⟩
 rw [e]
 exact ⟨v.checked, v⟩
def mulG (x y : Bx) : Bx :=
 ⟨(timesF ⟨x.a, x.b⟩ ⟨y.a, y.b⟩).lo - (timesF ⟨x.c, x.d⟩ ⟨y.c, y.d⟩).hi, (timesF ⟨x.a, x.b⟩ ⟨y.a, y.b⟩).hi - (timesF ⟨x.c, x.d⟩ ⟨y.c, y.d⟩).lo,
   (timesF ⟨x.a, x.b⟩ ⟨y.c, y.d⟩).lo + (timesF ⟨x.c, x.d⟩ ⟨y.a, y.b⟩).lo, (timesF ⟨x.a, x.b⟩ ⟨y.c, y.d⟩).hi + (timesF ⟨x.c, x.d⟩ ⟨y.a, y.b⟩).hi, false⟩
theorem mulF_cases {x y : Bx} (hx : Vb x) (hy : Vb y) : mulF x y = wideB ∨ (mulF x y = mulG x y ∧ (mulG x y).a <= (mulG x y).b ∧ (mulG x y).c <= (mulG x y).d ∧
  Corners ⟨x.a, x.b⟩ ⟨y.a, y.b⟩ ∧ Corners ⟨x.c, x.d⟩ ⟨y.c, y.d⟩ ∧ Corners ⟨x.a, x.b⟩ ⟨y.c, y.d⟩ ∧ Corners ⟨x.c, x.d⟩ ⟨y.a, y.b⟩) := by
 unfold mulF
 cases h : or (outF (timesF ⟨x.a, x.b⟩ ⟨y.a, y.b⟩)) (or (outF (timesF ⟨x.c, x.d⟩ ⟨y.c, y.d⟩)) (or (outF (timesF ⟨x.a, x.b⟩ ⟨y.c, y.d⟩)) (outF (timesF ⟨x.c, x.d⟩ ⟨y.a, y.b⟩)))) with
 | true => exact .inl rfl
 | false =>
  right
  simp only [Bool.or_eq_false_iff] at h
  obtain ⟨h1, h2, h3, h4⟩ := h
  have k1 := (out_iff _ _).1 h1
  have k2 := (out_iff _ _).1 h2
  have k3 := (out_iff _ _).1 h3
  have k4 := (out_iff _ _).1 h4
  obtain ⟨_, x1, x2, _⟩ := hx
  obtain ⟨_, y1, y2, _⟩ := hy
  have l1 := (times_ok k1 x1 y1).le
  have l2 := (times_ok k2 x2 y2).le
  have l3 := (times_ok k3 x1 y2).le
  have l4 := (times_ok k4 x2 y1).le
  unfold mulG
  simp only
  generalize timesF ⟨x.a, x.b⟩ ⟨y.a, y.b⟩ = t1 at l1 ⊢
  generalize timesF ⟨x.c, x.d⟩ ⟨y.c, y.d⟩ = t2 at l2 ⊢
  generalize timesF ⟨x.a, x.b⟩ ⟨y.c, y.d⟩ = t3 at l3 ⊢
  generalize timesF ⟨x.c, x.d⟩ ⟨y.a, y.b⟩ = t4 at l4 ⊢
  unfold MF at l1 l2 l3 l4
  refine ⟨?_, by omega, by omega, k1, k2, k3, k4⟩
  rw [w64_eq (n := t1.lo - t2.hi) (by omega), w64_eq (n := t1.hi - t2.lo) (by omega), w64_eq (n := t3.lo + t4.lo) (by omega), w64_eq (n := t3.hi + t4.hi) (by omega)]
end Ab
