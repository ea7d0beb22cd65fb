import Derived.Test.YtbcgkonhkoopnaaGreatXSqrtW
open Go Go.Proofs
namespace Ab
set_option maxRecDepth 100000
set_option maxHeartbeats 1000000
theorem tab {b : ByteArray} (hb : ∀ (i : Nat) (h : i < b.size), (b[i]'h).toNat = bitLen i) (hs : b.size = 256) {i : Nat} (h : i < 256) : b[i]? = some (UInt8.ofNat (bitLen i)) := by
 rw [getElem?_pos b i (by omega)]
 congr 1
 apply UInt8.toNat_inj.1
 rw [hb, UInt8.toNat_ofNat']
 have := bitLen_le8 i h
 omega
theorem shr_nat {X : Int} {x : Nat} (s : Nat) (hX : X = (x : Int)) (hs : s <= 64) : Int.fdiv X (2 ^ (min (((s : Nat) : Int).toNat) IntKind.u64.bits)) = ((x / 2 ^ s : Nat) : Int) := by
 rw [hX, show (((s : Nat) : Int).toNat) = s from rfl, Nat.min_eq_left (show s <= IntKind.u64.bits from hs)]
 have e : (2 : Int) ^ s = ((2 ^ s : Nat) : Int) := by simp
 rw [e, Int.fdiv_eq_ediv_of_nonneg _ (Int.natCast_nonneg _)]
 simp
theorem len_end {X : Int} {x : Nat} {n N : Nat} (hX : X = (x : Int)) (h : x < 256) (hN : N = n + bitLen x) (hn : n <= 56) : (IntKind.u8.wrap X).toNat = x ∧ 0 <= IntKind.u8.wrap X ∧ IntKind.i64.wrap ((n : Int) + IntKind.i64.wrap (((UInt8.ofNat (bitLen x)).toNat : Nat) : Int)) = (N : Int) := by
 have e : IntKind.u8.wrap X = (x : Int) := by rw [hX]; simp [IntKind.wrap, IntKind.bits, IntKind.signed]; omega
 have hb := bitLen_le8 x h
 refine ⟨by rw [e]; rfl, by rw [e]; omega, ?_⟩
 have e2 : (UInt8.ofNat (bitLen x)).toNat = bitLen x := by rw [UInt8.toNat_ofNat']; omega
 rw [e2, show IntKind.i64.wrap ((bitLen x : Nat) : Int) = ((bitLen x : Nat) : Int) from w64_eq (by omega), show IntKind.i64.wrap ((n : Int) + ((bitLen x : Nat) : Int)) = _ from w64_eq (by omega), hN]
 omega
theorem len_spec (x : Nat) (hx : x < 2 ^ 64) : Spec Tryz.prog [] 162 [.int .u64 (x : Int)] (.int .i64 (bitLen x : Int)) := by
 refine spec_fn T_ok mixed_ok 0 Tryz.func162 fn_ok162 (by kernel_rfl) ?_
 have E32 := shr_nat (X := (x : Int)) 32 rfl (by decide)
 refine br (fun h1 => ?_) (fun h1 => ?_)
 ·have h1' : (x : Int) ≥ 4294967296 := h1
  refine And.intro (by decide) ?_
  have S := bitLen_shift x 32 (by omega)
  have hyy : x / 2 ^ 32 < 2 ^ 32 := by omega
  generalize x / 2 ^ 32 = y at E32 S hyy
  have hL : bitLen x = 32 + bitLen y := S
  have hy : y < 2 ^ 32 := by omega
  have hE := E32
  refine br (fun h2 => ?_) (fun h2 => ?_)
  ·have h2' : (y : Int) ≥ 65536 := by rw [<- hE]; exact h2
   refine And.intro (by decide) ?_
   have E16 := shr_nat 16 hE (by decide)
   refine br (fun h3 => ?_) (fun h3 => ?_)
   ·have h3' : ((y / 2 ^ 16 : Nat) : Int) ≥ 256 := by rw [<- E16]; exact h3
    refine And.intro (by decide) ?_
    have E8 := shr_nat 8 E16 (by decide)
    have le := len_end (n := 32 + 16 + 8) E8 (show y / 2 ^ 16 / 2 ^ 8 < 256 by omega) (show bitLen x = 32 + 16 + 8 + bitLen (y / 2 ^ 16 / 2 ^ 8) by
               have a := bitLen_shift y 16 (by omega)
               have b := bitLen_shift (y / 2 ^ 16) 8 (by omega)
               omega) (by decide)
    refine And.intro le.2.1 (Exists.intro _ (And.intro (tab len8tab_get rfl (i := _) (Nat.lt_of_le_of_lt (Nat.le_of_eq le.1) (show y / 2 ^ 16 / 2 ^ 8 < 256 by omega))) ?_))
    refine And.intro (Or.inr rfl) (int_eq ?_)
    exact Eq.trans (congrArg (fun z => IntKind.i64.wrap (((32 + 16 + 8 : Nat) : Int) + IntKind.i64.wrap (((UInt8.ofNat (bitLen z)).toNat : Nat) : Int))) le.1) le.2.2
   ·have h3' : ¬ ((y / 2 ^ 16 : Nat) : Int) ≥ 256 := by rw [<- E16]; exact h3
    have le := len_end (n := 32 + 16) E16 (show y / 2 ^ 16 < 256 by omega) (show bitLen x = 32 + 16 + bitLen (y / 2 ^ 16) by
               have a := bitLen_shift y 16 (by omega)
               omega) (by decide)
    refine And.intro le.2.1 (Exists.intro _ (And.intro (tab len8tab_get rfl (i := _) (Nat.lt_of_le_of_lt (Nat.le_of_eq le.1) (show y / 2 ^ 16 < 256 by omega))) ?_))
    refine And.intro (Or.inr rfl) (int_eq ?_)
    exact Eq.trans (congrArg (fun z => IntKind.i64.wrap (((32 + 16 : Nat) : Int) + IntKind.i64.wrap (((UInt8.ofNat (bitLen z)).toNat : Nat) : Int))) le.1) le.2.2
  ·have h2' : ¬ (y : Int) ≥ 65536 := by rw [<- hE]; exact h2
   refine br (fun h3 => ?_) (fun h3 => ?_)
   ·have h3' : (y : Int) ≥ 256 := by rw [<- hE]; exact h3
    refine And.intro (by decide) ?_
    have E8 := shr_nat 8 hE (by decide)
    have le := len_end (n := 32 + 8) E8 (show y / 2 ^ 8 < 256 by omega) (show bitLen x = 32 + 8 + bitLen (y / 2 ^ 8) by
                  have a := bitLen_shift y 8 (by omega)
                  omega) (by decide)
    refine And.intro le.2.1 (Exists.intro _ (And.intro (tab len8tab_get rfl (i := _) (Nat.lt_of_le_of_lt (Nat.le_of_eq le.1) (show y / 2 ^ 8 < 256 by omega))) ?_))
    refine And.intro (Or.inr rfl) (int_eq ?_)
    exact Eq.trans (congrArg (fun z => IntKind.i64.wrap (((32 + 8 : Nat) : Int) + IntKind.i64.wrap (((UInt8.ofNat (bitLen z)).toNat : Nat) : Int))) le.1) le.2.2
   ·have h3' : ¬ (y : Int) ≥ 256 := by rw [<- hE]; exact h3
    have le := len_end (n := 32) hE (show y < 256 by omega) hL (by decide)
    refine And.intro le.2.1 (Exists.intro _ (And.intro (tab len8tab_get rfl (i := _) (Nat.lt_of_le_of_lt (Nat.le_of_eq le.1) (show y < 256 by omega))) ?_))
    refine And.intro (Or.inr rfl) (int_eq ?_)
    exact Eq.trans (congrArg (fun z => IntKind.i64.wrap (((32 : Nat) : Int) + IntKind.i64.wrap (((UInt8.ofNat (bitLen z)).toNat : Nat) : Int))) le.1) le.2.2
 ·have h1' : ¬ (x : Int) ≥ 4294967296 := h1
  have E0 : (x : Int) = ((x : Nat) : Int) := rfl
  have hL : bitLen x = 0 + bitLen x := (by omega)
  have hy : x < 2 ^ 32 := by omega
  have hE := E0
  refine br (fun h2 => ?_) (fun h2 => ?_)
  ·have h2' : (x : Int) ≥ 65536 := by rw [<- hE]; exact h2
   refine And.intro (by decide) ?_
   have E16 := shr_nat 16 hE (by decide)
   refine br (fun h3 => ?_) (fun h3 => ?_)
   ·have h3' : ((x / 2 ^ 16 : Nat) : Int) ≥ 256 := by rw [<- E16]; exact h3
    refine And.intro (by decide) ?_
    have E8 := shr_nat 8 E16 (by decide)
    have le := len_end (n := 0 + 16 + 8) E8 (show x / 2 ^ 16 / 2 ^ 8 < 256 by omega) (show bitLen x = 0 + 16 + 8 + bitLen (x / 2 ^ 16 / 2 ^ 8) by
               have a := bitLen_shift x 16 (by omega)
               have b := bitLen_shift (x / 2 ^ 16) 8 (by omega)
               omega) (by decide)
    refine And.intro le.2.1 (Exists.intro _ (And.intro (tab len8tab_get rfl (i := _) (Nat.lt_of_le_of_lt (Nat.le_of_eq le.1) (show x / 2 ^ 16 / 2 ^ 8 < 256 by omega))) ?_))
    refine And.intro (Or.inr rfl) (int_eq ?_)
    exact Eq.trans (congrArg (fun z => IntKind.i64.wrap (((0 + 16 + 8 : Nat) : Int) + IntKind.i64.wrap (((UInt8.ofNat (bitLen z)).toNat : Nat) : Int))) le.1) le.2.2
   ·have h3' : ¬ ((x / 2 ^ 16 : Nat) : Int) ≥ 256 := by rw [<- E16]; exact h3
    have le := len_end (n := 0 + 16) E16 (show x / 2 ^ 16 < 256 by omega) (show bitLen x = 0 + 16 + bitLen (x / 2 ^ 16) by
               have a := bitLen_shift x 16 (by omega)
               omega) (by decide)
    refine And.intro le.2.1 (Exists.intro _ (And.intro (tab len8tab_get rfl (i := _) (Nat.lt_of_le_of_lt (Nat.le_of_eq le.1) (show x / 2 ^ 16 < 256 by omega))) ?_))
    refine And.intro (Or.inr rfl) (int_eq ?_)
    exact Eq.trans (congrArg (fun z => IntKind.i64.wrap (((0 + 16 : Nat) : Int) + IntKind.i64.wrap (((UInt8.ofNat (bitLen z)).toNat : Nat) : Int))) le.1) le.2.2
  ·have h2' : ¬ (x : Int) ≥ 65536 := by rw [<- hE]; exact h2
   refine br (fun h3 => ?_) (fun h3 => ?_)
   ·have h3' : (x : Int) ≥ 256 := by rw [<- hE]; exact h3
    refine And.intro (by decide) ?_
    have E8 := shr_nat 8 hE (by decide)
    have le := len_end (n := 0 + 8) E8 (show x / 2 ^ 8 < 256 by omega) (show bitLen x = 0 + 8 + bitLen (x / 2 ^ 8) by
                have a := bitLen_shift x 8 (by omega)
                omega) (by decide)
    refine And.intro le.2.1 (Exists.intro _ (And.intro (tab len8tab_get rfl (i := _) (Nat.lt_of_le_of_lt (Nat.le_of_eq le.1) (show x / 2 ^ 8 < 256 by omega))) ?_))
    refine And.intro (Or.inr rfl) (int_eq ?_)
    exact Eq.trans (congrArg (fun z => IntKind.i64.wrap (((0 + 8 : Nat) : Int) + IntKind.i64.wrap (((UInt8.ofNat (bitLen z)).toNat : Nat) : Int))) le.1) le.2.2
   ·have h3' : ¬ (x : Int) ≥ 256 := by rw [<- hE]; exact h3
    have le := len_end (n := 0) hE (show x < 256 by omega) hL (by decide)
    refine And.intro le.2.1 (Exists.intro _ (And.intro (tab len8tab_get rfl (i := _) (Nat.lt_of_le_of_lt (Nat.le_of_eq le.1) (show x < 256 by omega))) ?_))
    refine And.intro (Or.inr rfl) (int_eq ?_)
    exact Eq.trans (congrArg (fun z => IntKind.i64.wrap (((0 : Nat) : Int) + IntKind.i64.wrap (((UInt8.ofNat (bitLen z)).toNat : Nat) : Int))) le.1) le.2.2
end Ab
