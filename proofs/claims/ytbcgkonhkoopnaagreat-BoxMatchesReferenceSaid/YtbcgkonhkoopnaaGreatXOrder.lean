import Derived.Test.YtbcgkonhkoopnaaGreatXOrderP
import Derived.OpenShut
import Derived.Test.YtbcgkonhkoopnaaGreatXMulQ
open Go Go.Proofs
namespace Ab
set_option maxRecDepth 100000
set_option maxHeartbeats 1000000
abbrev par (a b c d e : Int) : AV := .agg [.int .i64 a, .int .i64 b, .int .i64 c, .int .i64 d, .int .i64 e]
theorem made_ok {re im wi h bits : Int} (h1 : I64 re) (h2 : I64 im) (h3 : I64 wi) (h4 : I64 h) (h5 : I64 bits) : Spec Tryz.prog [] 12 [par re im wi h bits] (madeF re im wi h bits).av ∧ Vb (madeF re im wi h bits) := by
 obtain ⟨m1, m2, m3⟩ := most_ok h5
 refine ⟨made_spec re im wi h bits m1 ?_ ?_, made_vb h1 h2 h3 h4 h5⟩
 ·unfold MF at m3
  rw [w64_eq (n := 2 * mostF bits) (by omega), w64_eq (by omega)]
  omega
 ·unfold mn; split <;> omega
theorem meets_vb {x y : Bx} (hx : Vb x) (hy : Vb y) : meetsF x y = true ↔ (x.a <= y.b ∧ y.a <= x.b ∧ x.c <= y.d ∧ y.c <= x.d) := by
 unfold meetsF meetsC
 rw [hx.checked, hy.checked, hx.1, hy.1]
 obtain ⟨_, a1, a2, _⟩ := hx
 obtain ⟨_, b1, b2, _⟩ := hy
 simp only [Bool.false_or, decide_eq_true_eq]
 unfold mx mn
 constructor
 ·rintro ⟨e1, e2⟩
  split at e1 <;> split at e1 <;> split at e2 <;> split at e2 <;> omega
 ·rintro ⟨e1, e2, e3, e4⟩
  refine ⟨?_, ?_⟩ <;> (repeat' split) <;> omega
theorem zero_vb : Vb ⟨0, 0, 0, 0, false⟩ := ⟨rfl, by decide, by decide, by decide, by decide, by decide, by decide⟩
theorem i64_of {n : Int} (h : (Lit.int .i64 n).wf = true) : I64 n := Go.bounds_i64 h
end Ab
