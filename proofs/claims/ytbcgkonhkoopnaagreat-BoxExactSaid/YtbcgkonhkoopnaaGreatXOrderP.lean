import Derived.Test.YtbcgkonhkoopnaaGreatXMadeP
/-!
The plain law of BoxOrder: parts.
-/
open Go Go.Proofs
namespace Ab
set_option maxRecDepth 100000

theorem inner_in {lo hi n : Int} (h : lo ≤ hi) (h1 : -MF ≤ lo) (h2 : hi ≤ MF) (hn : I64 n) : w64 (w64 (hi - lo) + 1) ≠ 0 ∧ lo ≤ innerF lo hi n ∧ innerF lo hi n ≤ hi := by
  unfold MF at h1 h2
  unfold innerF
  rw [w64_eq (n := hi - lo) (by omega), w64_eq (n := hi - lo + 1) (by omega)]
  obtain ⟨p1, p2⟩ := pick_lt hn (n := hi - lo + 1) (by omega)
  rw [w64_eq (by omega)]
  omega
def withinF (p : Bx) (n m : Int) : Bx := ⟨innerF p.a p.b n, innerF (innerF p.a p.b n) p.b m, innerF p.c p.d m, innerF (innerF p.c p.d m) p.d n, false⟩
theorem within_vb {p : Bx} (h : Vb p) {n m : Int} (hn : I64 n) (hm : I64 m) : Vb (withinF p n m) ∧ p.a ≤ (withinF p n m).a ∧ (withinF p n m).b ≤ p.b ∧ p.c ≤ (withinF p n m).c ∧ (withinF p n m).d ≤ p.d ∧
    w64 (w64 (p.b - p.a) + 1) ≠ 0 ∧ w64 (w64 (p.d - p.c) + 1) ≠ 0 ∧ w64 (w64 (p.b - innerF p.a p.b n) + 1) ≠ 0 ∧ w64 (w64 (p.d - innerF p.c p.d m) + 1) ≠ 0 := by
  obtain ⟨h0, h1, h2, h3, h4, h5, h6⟩ := h
  obtain ⟨i0, i1, i2⟩ := inner_in h1 h3 h4 hn
  obtain ⟨j0, j1, j2⟩ := inner_in h2 h5 h6 hm
  obtain ⟨k0, k1, k2⟩ := inner_in i2 (by omega) h4 hm
  obtain ⟨l0, l1, l2⟩ := inner_in j2 (by omega) h6 hn
  unfold withinF Vb
  simp only
  exact ⟨⟨trivial, k1, l1, by omega, by omega, by omega, by omega⟩, i1, k2, j1, l2, i0, j0, k0, l0⟩
theorem hull_vb {x y : Bx} (hx : Vb x) (hy : Vb y) : applyF hullF x y = hullF x y ∧ Vb (hullF x y) := by
  have hv : Vb (hullF x y) := by
    obtain ⟨h0, h1, h2, h3, h4, h5, h6⟩ := hx
    obtain ⟨g0, g1, g2, g3, g4, g5, g6⟩ := hy
    unfold hullF Vb
    simp only
    refine ⟨trivial, ?_, ?_, ?_, ?_, ?_, ?_⟩ <;> (repeat' split) <;> omega
  unfold applyF
  rw [hx.checked, hy.checked, hx.1, hy.1]
  exact ⟨hv.checked, hv⟩

theorem inside_vb {x y : Bx} (hx : Vb x) (hy : Vb y) : insideF x y = eqB5 (hullF x y) y := by
  unfold insideF
  rw [hy.checked, hy.1, (hull_vb hx hy).1]
  rfl
theorem eqB5_iff {x y : Bx} : eqB5 x y = true ↔ x = y := by
  obtain ⟨a, b, c, d, w⟩ := x
  obtain ⟨a', b', c', d', w'⟩ := y
  simp [eqB5]
theorem inside_iff {x y : Bx} (hx : Vb x) (hy : Vb y) : insideF x y = true ↔ y.a ≤ x.a ∧ x.b ≤ y.b ∧ y.c ≤ x.c ∧ x.d ≤ y.d := by
  rw [inside_vb hx hy, eqB5_iff]
  obtain ⟨h0, h1⟩ := hy
  obtain ⟨a', b', c', d', w'⟩ := y
  simp only at h0
  subst h0
  unfold hullF
  simp only [Bx.mk.injEq, and_true]
  constructor
  · rintro ⟨e1, e2, e3, e4⟩
    split at e1 <;> split at e2 <;> split at e3 <;> split at e4 <;> omega
  · rintro ⟨e1, e2, e3, e4⟩
    refine ⟨?_, ?_, ?_, ?_⟩ <;> split <;> omega
end Ab
