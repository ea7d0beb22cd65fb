import Derived.Test.YtbcgkonhkoopnaaGreatXStep
import Derived.Test.YtbcgkonhkoopnaaGreatXFT
import Derived.Laws.MathBits
/-!
The contracts of math/bits.Len32, LeadingZeros32.
-/
open Go Go.Proofs
namespace Ab
set_option maxRecDepth 100000
set_option maxHeartbeats 1000000

theorem tabL {b : ByteArray} (hb : ∀ (i : Nat) (h : i < b.size), (b[i]'h).toNat = bitLen i) (hs : b.size = 256) {i : Nat} (h : i < 256) : b[i]? = some (UInt8.ofNat (bitLen i)) := by
  rw [getElem?_pos b i (by omega)]
  congr 1
  apply UInt8.toNat_inj.1
  rw [hb, UInt8.toNat_ofNat']
  have := bitLen_le8 i h
  omega
theorem shr_nat32 {X : Int} {x : Nat} (s : Nat) (hX : X = (x : Int)) (hs : s ≤ 32) : Int.fdiv X (2 ^ (min (((s : Nat) : Int).toNat) IntKind.u32.bits)) = ((x / 2 ^ s : Nat) : Int) := by
  rw [hX, show (((s : Nat) : Int).toNat) = s from rfl, Nat.min_eq_left (show s ≤ IntKind.u32.bits from hs)]
  have e : (2 : Int) ^ s = ((2 ^ s : Nat) : Int) := by simp
  rw [e, Int.fdiv_eq_ediv_of_nonneg _ (Int.natCast_nonneg _)]
  simp
theorem lenL_end {X : Int} {x : Nat} {n N : Nat} (hX : X = (x : Int)) (h : x < 256) (hN : N = n + bitLen x) (hn : n ≤ 56) : (IntKind.u8.wrap X).toNat = x ∧ 0 ≤ IntKind.u8.wrap X ∧ IntKind.i64.wrap ((n : Int) + IntKind.i64.wrap (((UInt8.ofNat (bitLen x)).toNat : Nat) : Int)) = (N : Int) := by
  have e : IntKind.u8.wrap X = (x : Int) := by rw [hX]; simp [IntKind.wrap, IntKind.bits, IntKind.signed]; omega
  have hb := bitLen_le8 x h
  refine ⟨by rw [e]; rfl, by rw [e]; omega, ?_⟩
  have e2 : (UInt8.ofNat (bitLen x)).toNat = bitLen x := by rw [UInt8.toNat_ofNat']; omega
  rw [e2, show IntKind.i64.wrap ((bitLen x : Nat) : Int) = ((bitLen x : Nat) : Int) from w64_eq (by omega), show IntKind.i64.wrap ((n : Int) + ((bitLen x : Nat) : Int)) = _ from w64_eq (by omega), hN]
  omega

theorem len32_spec (gl : List (Nat × AV)) (y : Nat) (hy : y < 2 ^ 32) : Spec Tryz.prog gl 160 [.int .u32 (y : Int)] (.int .i64 (bitLen y : Int)) := by
  have hL : bitLen y = 0 + bitLen y := (Nat.zero_add _).symm
  refine spec_fn T_ok mixed_ok 0 Tryz.func160 fn_ok160 (by kernel_rfl) ?_
  have hE : (y : Int) = ((y : Nat) : Int) := rfl
  refine br (fun h2 => ?_) (fun h2 => ?_)
  · have h2' : (y : Int) ≥ 65536 := h2
    refine And.intro (by decide) ?_
    have E16 := shr_nat32 16 hE (by decide)
    refine br (fun h3 => ?_) (fun h3 => ?_)
    · have h3' : ((y / 2 ^ 16 : Nat) : Int) ≥ 256 := by rw [← E16]; exact h3
      refine And.intro (by decide) ?_
      have E8 := shr_nat32 8 E16 (by decide)
      have le := lenL_end (n := 0 + 16 + 8) E8 (show y / 2 ^ 16 / 2 ^ 8 < 256 by omega) (show bitLen y = 0 + 16 + 8 + bitLen (y / 2 ^ 16 / 2 ^ 8) by
              have a := bitLen_shift y 16 (by omega)
              have b := bitLen_shift (y / 2 ^ 16) 8 (by omega)
              omega) (by decide)
      refine And.intro le.2.1 (Exists.intro _ (And.intro (tabL len8tab_get rfl (i := _) (Nat.lt_of_le_of_lt (Nat.le_of_eq le.1) (show y / 2 ^ 16 / 2 ^ 8 < 256 by omega))) ?_))
      refine And.intro (Or.inr rfl) (int_eq ?_)
      exact Eq.trans (congrArg (fun z => IntKind.i64.wrap (((0 + 16 + 8 : Nat) : Int) + IntKind.i64.wrap (((UInt8.ofNat (bitLen z)).toNat : Nat) : Int))) le.1) le.2.2
    · have h3' : ¬ ((y / 2 ^ 16 : Nat) : Int) ≥ 256 := by rw [← E16]; exact h3
      have le := lenL_end (n := 0 + 16) E16 (show y / 2 ^ 16 < 256 by omega) (show bitLen y = 0 + 16 + bitLen (y / 2 ^ 16) by
              have a := bitLen_shift y 16 (by omega)
              omega) (by decide)
      refine And.intro le.2.1 (Exists.intro _ (And.intro (tabL len8tab_get rfl (i := _) (Nat.lt_of_le_of_lt (Nat.le_of_eq le.1) (show y / 2 ^ 16 < 256 by omega))) ?_))
      refine And.intro (Or.inr rfl) (int_eq ?_)
      exact Eq.trans (congrArg (fun z => IntKind.i64.wrap (((0 + 16 : Nat) : Int) + IntKind.i64.wrap (((UInt8.ofNat (bitLen z)).toNat : Nat) : Int))) le.1) le.2.2
  · have h2' : ¬ (y : Int) ≥ 65536 := h2
    refine br (fun h3 => ?_) (fun h3 => ?_)
    · have h3' : (y : Int) ≥ 256 := h3
      refine And.intro (by decide) ?_
      have E8 := shr_nat32 8 hE (by decide)
      have le := lenL_end (n := 0 + 8) E8 (show y / 2 ^ 8 < 256 by omega) (show bitLen y = 0 + 8 + bitLen (y / 2 ^ 8) by
              have a := bitLen_shift y 8 (by omega)
              omega) (by decide)
      refine And.intro le.2.1 (Exists.intro _ (And.intro (tabL len8tab_get rfl (i := _) (Nat.lt_of_le_of_lt (Nat.le_of_eq le.1) (show y / 2 ^ 8 < 256 by omega))) ?_))
      refine And.intro (Or.inr rfl) (int_eq ?_)
      exact Eq.trans (congrArg (fun z => IntKind.i64.wrap (((0 + 8 : Nat) : Int) + IntKind.i64.wrap (((UInt8.ofNat (bitLen z)).toNat : Nat) : Int))) le.1) le.2.2
    · have h3' : ¬ (y : Int) ≥ 256 := h3
      have le := lenL_end (n := 0) hE (show y < 256 by omega) hL (by decide)
      refine And.intro le.2.1 (Exists.intro _ (And.intro (tabL len8tab_get rfl (i := _) (Nat.lt_of_le_of_lt (Nat.le_of_eq le.1) (show y < 256 by omega))) ?_))
      refine And.intro (Or.inr rfl) (int_eq ?_)
      exact Eq.trans (congrArg (fun z => IntKind.i64.wrap (((0 : Nat) : Int) + IntKind.i64.wrap (((UInt8.ofNat (bitLen z)).toNat : Nat) : Int))) le.1) le.2.2
theorem bitLen32 {y : Nat} (h1 : y < 2 ^ 32) : bitLen y ≤ 32 ∧ y < 2 ^ bitLen y ∧ (y ≠ 0 → 2 ^ bitLen y ≤ 2 * y) := by
  obtain ⟨a, b⟩ := bitLen_spec y
  refine ⟨?_, a, fun h => ?_⟩
  · rcases Nat.eq_zero_or_pos y with e | e
    · subst e; decide
    · have b := b (by omega)
      refine Nat.le_of_not_lt fun h => ?_
      have : 2 ^ 32 ≤ 2 ^ (bitLen y - 1) := Nat.pow_le_pow_right (by decide) (by omega)
      omega
  · have b := b h
    have hl0 : 0 < bitLen y := by
      rcases Nat.eq_zero_or_pos (bitLen y) with e | e
      · rw [e] at a; omega
      · exact e
    rw [show bitLen y = bitLen y - 1 + 1 by omega, Nat.pow_succ]
    omega
theorem lz32_spec (gl : List (Nat × AV)) (y : Nat) (hy : y < 2 ^ 32) : Spec Tryz.prog gl 151 [.int .u32 (y : Int)] (.int .i64 ((32 - bitLen y : Nat) : Int)) := by
  have s := len32_spec gl y hy
  have hb := (bitLen32 hy).1
  have e : w64 (32 - (bitLen y : Int)) = ((32 - bitLen y : Nat) : Int) := by rw [w64_eq (by omega)]; omega
  rw [← e]
  refine spec_fn T_ok mixed_ok 1 Tryz.func151 fn_ok151 (by kernel_rfl) ?_
  first | refine Exists.intro _ (And.intro (s) ?_) | refine Hn_by (Exists.intro _ (And.intro (s) ?_))
  exact And.intro (Or.inr rfl) rfl
end Ab
