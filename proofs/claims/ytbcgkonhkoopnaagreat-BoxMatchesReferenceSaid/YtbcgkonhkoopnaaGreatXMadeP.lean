import Derived.Test.YtbcgkonhkoopnaaGreatXMade2
open Go Go.Proofs
namespace Ab
set_option maxRecDepth 100000
def I64 (x : Int) : Prop := -9223372036854775808 <= x ∧ x <= 9223372036854775807
theorem pick_lt {x n : Int} (hx : I64 x) (hn : 0 < n) : 0 <= pickF x n ∧ pickF x n < n := by
 obtain ⟨h1, h2⟩ := hx
 unfold pickF
 have key : ∀ y : Int, 0 <= y -> 0 <= y.tmod n ∧ y.tmod n < n := fun y hy => ⟨Int.tmod_nonneg _ hy, Int.tmod_lt_of_pos _ hn⟩
 by_cases h : x < 0
 ·rw [if_pos h, w64_eq (n := x + 1) (by omega), w64_eq (by omega)]
  exact key _ (by omega)
 ·rw [if_neg h]; exact key _ (by omega)
theorem most_ok {bits : Int} (hb : I64 bits) : 0 <= w64 (1 + pickF bits 60) ∧ 2 <= mostF bits ∧ mostF bits <= MF := by
 obtain ⟨h1, h2⟩ := pick_lt hb (n := 60) (by decide)
 unfold mostF
 generalize pickF bits 60 = p at h1 h2 ⊢
 rw [w64_eq (n := 1 + p) (by omega)]
 refine ⟨by omega, ?_⟩
 obtain ⟨k, rfl⟩ := Int.eq_ofNat_of_zero_le h1
 have hk : k < 60 := by omega
 have e : (1 + (k : Int)).toNat = k + 1 := by omega
 rw [e, Nat.min_eq_left (show k + 1 <= IntKind.i64.bits by show k + 1 <= 64; omega), Int.one_mul]
 have b1 : (2 : Int) ^ (k + 1) <= 2 ^ 60 := by
  have : (2 : Nat) ^ (k + 1) <= 2 ^ 60 := Nat.pow_le_pow_right (by decide) (by omega)
  exact_mod_cast this
 have b2 : (2 : Int) <= 2 ^ (k + 1) := by
  have : (2 : Nat) ^ 1 <= 2 ^ (k + 1) := Nat.pow_le_pow_right (by decide) (by omega)
  exact_mod_cast this
 have b3 : (2 : Int) ^ 60 = 1152921504606846976 := by decide
 rw [w64_eq (by omega)]
 unfold MF
 omega
def Vb (x : Bx) : Prop := x.w = false ∧ x.a <= x.b ∧ x.c <= x.d ∧ -MF <= x.a ∧ x.b <= MF ∧ -MF <= x.c ∧ x.d <= MF
theorem max4 {a b c d : Int} (h1 : a <= b) (h2 : c <= d) : maxL a [b, c, d] = mx b d := by
 simp only [maxL, mx]; repeat' split <;> omega
theorem min4 {a b c d : Int} (h1 : a <= b) (h2 : c <= d) : minL a [b, c, d] = mn a c := by
 simp only [minL, mn]; repeat' split <;> omega
theorem Vb.ok {x : Bx} (h : Vb x) : x.ok = true := by
 obtain ⟨h0, h1, h2, h3, h4, h5, h6⟩ := h
 unfold Bx.ok validF
 rw [h0]
 simp only
 refine decide_eq_true ⟨h1, h2, ?_, ?_⟩
 ·rw [max4 h1 h2]; unfold mx; split <;> omega
 ·rw [min4 h1 h2]; unfold mn; split <;> omega
theorem Vb.of {x : Bx} (hw : x.w = false) (h : x.ok = true) : Vb x := by
 unfold Bx.ok validF at h
 rw [hw] at h
 simp only at h
 have h := of_decide_eq_true h
 obtain ⟨h1, h2, h3, h4⟩ := h
 rw [max4 h1 h2] at h3
 rw [min4 h1 h2] at h4
 unfold mx at h3; unfold mn at h4
 refine ⟨hw, h1, h2, ?_, ?_, ?_, ?_⟩ <;> (split at h3 <;> split at h4 <;> omega)
theorem checked_of {x : Bx} (h : x.ok = true) : checkedF x = x := by unfold checkedF; rw [h]
theorem Vb.checked {x : Bx} (h : Vb x) : checkedF x = x := checked_of h.ok
theorem made_vb {re im wi h bits : Int} (h1 : I64 re) (h2 : I64 im) (h3 : I64 wi) (h4 : I64 h) (h5 : I64 bits) : Vb (madeF re im wi h bits) := by
 obtain ⟨_, m2, m3⟩ := most_ok h5
 unfold MF at m3
 generalize hm : mostF bits = m at m2 m3
 have low : ∀ {r : Int}, I64 r -> -m <= lowF r m ∧ lowF r m <= m := by
  intro r hr
  unfold lowF
  rw [w64_eq (n := 2 * m) (by omega), w64_eq (n := 2 * m + 1) (by omega)]
  obtain ⟨p1, p2⟩ := pick_lt hr (n := 2 * m + 1) (by omega)
  rw [w64_eq (by omega)]
  omega
 have top : ∀ {r u : Int}, I64 r -> I64 u -> lowF r m <= mn (w64 (lowF r m + pickF u (mn m 1073741824))) MF ∧ mn (w64 (lowF r m + pickF u (mn m 1073741824))) MF <= MF := by
  intro r u hr hu
  obtain ⟨l1, l2⟩ := low hr
  have hmn : 0 < mn m 1073741824 ∧ mn m 1073741824 <= 1073741824 := by unfold mn; split <;> omega
  obtain ⟨p1, p2⟩ := pick_lt hu hmn.1
  generalize pickF u (mn m 1073741824) = q at p1 p2 ⊢
  generalize mn m 1073741824 = e at hmn p2
  rw [w64_eq (by omega)]
  unfold mn MF
  constructor <;> split <;> omega
 have lr := low h1
 have li := low h2
 have tr := top h1 h3
 have ti := top h2 h4
 unfold madeF
 rw [hm]
 cases pickF bits 7 == 3 with
 | true => exact ⟨rfl, tr.1, Int.le_refl _, by show -MF <= lowF re m; unfold MF; omega, tr.2, by show -MF <= 0; unfold MF; omega, by show (0 : Int) <= MF; unfold MF; omega⟩
 | false => exact ⟨rfl, tr.1, ti.1, by show -MF <= lowF re m; unfold MF; omega, tr.2, by show -MF <= lowF im m; unfold MF; omega, ti.2⟩
end Ab
