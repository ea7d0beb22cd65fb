import Derived.Test.YtbcgkonhkoopnaaGreatXOrder
open Go Go.Proofs
namespace Ab
def Sm (x : Int) : Prop := -MF <= x ∧ x <= MF
theorem i64_sm {x : Int} (h : Sm x) : I64 x := by
 obtain ⟨h1, h2⟩ := h
 unfold MF at h1 h2
 unfold I64; omega
theorem neg_sm {z : Int} (h : Sm z) : w64 (0 - z) = -z := by
 obtain ⟨h1, h2⟩ := h
 unfold MF at h1 h2
 rw [w64_eq (by omega)]; omega
theorem Vb.sm {x : Bx} (h : Vb x) : Sm x.a ∧ Sm x.b ∧ Sm x.c ∧ Sm x.d := by
 obtain ⟨_, h1, h2, h3, h4, h5, h6⟩ := h
 unfold Sm
 omega
end Ab
