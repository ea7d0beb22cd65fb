import Derived.Test.YtbcgkonhkoopnaaGreatXMadeP
open Go Go.Proofs
namespace Ab
set_option maxRecDepth 100000
theorem hull_vb {x y : Bx} (hx : Vb x) (hy : Vb y) : applyF hullF x y = hullF x y ∧ Vb (hullF x y) := by
 have hv : Vb (hullF x y) := by
  obtain ⟨h0, h1, h2, h3, h4, h5, h6⟩ := hx
  obtain ⟨g0, g1, g2, g3, g4, g5, g6⟩ := hy
  unfold hullF Vb
  simp only
  refine ⟨trivial, ?_, ?_, ?_, ?_, ?_, ?_⟩ <;> (repeat' split) <;> omega
 unfold applyF
 rw [hx.checked, hy.checked, hx.1, hy.1]
 exact ⟨hv.checked, hv⟩
theorem inside_vb {x y : Bx} (hx : Vb x) (hy : Vb y) : insideF x y = eqB5 (hullF x y) y := by
 unfold insideF
 rw [hy.checked, hy.1, (hull_vb hx hy).1]
 rfl
theorem eqB5_iff {x y : Bx} : eqB5 x y = true ↔ x = y := by
 obtain ⟨a, b, c, d, w⟩ := x
 obtain ⟨a', b', c', d', w'⟩ := y
 simp [eqB5]
theorem inside_iff {x y : Bx} (hx : Vb x) (hy : Vb y) : insideF x y = true ↔ y.a <= x.a ∧ x.b <= y.b ∧ y.c <= x.c ∧ x.d <= y.d := by
 rw [inside_vb hx hy, eqB5_iff]
 obtain ⟨h0, h1⟩ := hy
 obtain ⟨a', b', c', d', w'⟩ := y
 simp only at h0
 subst h0
 unfold hullF
 simp only [Bx.mk.injEq, and_true]
 constructor
 ·rintro ⟨e1, e2, e3, e4⟩
  split at e1 <;> split at e2 <;> split at e3 <;> split at e4 <;> omega
 ·rintro ⟨e1, e2, e3, e4⟩
  refine ⟨?_, ?_, ?_, ?_⟩ <;> split <;> omega
end Ab
