import Derived.Test.YteghdokklckbhaaDoorXMod2
import Derived.Test.YteghdokklckbhaaDoorXSane
/-!
The walk of ModularField.
-/
open Go Go.Proofs
namespace Ab
set_option maxRecDepth 100000

theorem Pr.fermat {p : Int} (h : Pr p) {x : Int} (hx : x % p ≠ 0) : x ^ (p - 1).toNat % p = 1 := by
  have h1 := h.lo
  have hm := h.mod x
  rw [← pow_emod]
  have e1 : ((p.toNat : Nat) : Int) = p := by omega
  have e2 : (((x % p).toNat : Nat) : Int) = x % p := by omega
  have := Nt.Prm.fermat (a := (x % p).toNat) h.prm (fun hd => by
    have := Nat.le_of_dvd (by omega) hd
    omega)
  have h3 : (((x % p).toNat ^ (p.toNat - 1) % p.toNat : Nat) : Int) = 1 := by rw [this]; rfl
  rw [Int.natCast_emod, Int.natCast_pow, e1, e2] at h3
  rw [show (p - 1).toNat = p.toNat - 1 by omega]; exact h3

theorem field_walk {p : Int} (h : Pr p) (a b c n m p0 : Int) (hp0 : I64 p0) (hp : lawP p0 = p) (hn : I64 n) (hm : I64 m) : Spec Tryd.prog glB4 7 [.int .i64 a, .int .i64 b, .int .i64 c, .int .i64 n, .int .i64 m, .int .i64 p0] (.bool true) := by
  have h1 := h.hi; have h2 := h.lo
  have ha := h.mod a; have hb := h.mod b; have hc := h.mod c
  have hnb := pickF_bd (x := n) (show (0 : Int) < 1073741824 by decide) hn.1 hn.2
  have hmb := pickF_bd (x := m) (show (0 : Int) < 1073741824 by decide) hm.1 hm.2
  have hpr := lawPrime_spec glB4 p0 hp0.1 hp0.2
  rw [hp] at hpr
  have F1 : (a % p) * (b % p) % p = b * a % p := by rw [mul_emod_l, mul_emod_r, Int.mul_comm]
  have F2 : ((a % p) * (b % p) % p) * (c % p) % p = (a % p) * ((b % p) * (c % p) % p) % p := by rw [mul_emod_l (a % p * (b % p)), mul_emod_r (a % p) (b % p * (c % p)), Int.mul_assoc]
  have hw1 : w64 (b % p + c % p) = b % p + c % p := w64_eq (by omega)
  have hxy := h.mod ((a % p) * (b % p)); have hxz := h.mod ((a % p) * (c % p))
  have hw2 : w64 ((a % p) * (b % p) % p + (a % p) * (c % p) % p) = (a % p) * (b % p) % p + (a % p) * (c % p) % p := w64_eq (by omega)
  have F3 : (a % p) * w64 (b % p + c % p) % p = w64 ((a % p) * (b % p) % p + (a % p) * (c % p) % p) % p := by
    rw [hw1, hw2, ← Int.add_emod, Int.mul_add]
  have hw3 : w64 (pickF n 1073741824 + pickF m 1073741824) = pickF n 1073741824 + pickF m 1073741824 := w64_eq (by omega)
  have F5 : ((a % p) ^ (pickF n 1073741824).toNat % p) * ((a % p) ^ (pickF m 1073741824).toNat % p) % p = (a % p) ^ (w64 (pickF n 1073741824 + pickF m 1073741824)).toNat % p := by
    rw [hw3, mul_emod_l, mul_emod_r, ← Int.pow_add]; congr 2; omega
  have hw4 : w64 (p - 1) = p - 1 := w64_eq (by omega)
  refine spec_fn T_ok mixed_ok 0 Tryd.func7 fn_ok7 (by kernel_rfl) ?_
  refine Exists.intro _ (And.intro sane_spec ?_)
  repeat (first | refine gT ?_ | refine gF ?_ | refine brT ?_ | refine brF ?_)
  refine Exists.intro _ (And.intro hpr ?_)
  refine Exists.intro _ (And.intro (pick_spec glB4 n 1073741824 (by decide)) ?_)
  refine Exists.intro _ (And.intro (pick_spec glB4 m 1073741824 (by decide)) ?_)
  refine Exists.intro _ (And.intro (Mod_spec h a) ?_)
  refine Exists.intro _ (And.intro (Mod_spec h b) ?_)
  refine Exists.intro _ (And.intro (Mod_spec h c) ?_)
  refine Exists.intro _ (And.intro (Mul_spec h _ _) ?_)
  refine Exists.intro _ (And.intro (Mul_spec h _ _) ?_)
  refine Exists.intro _ (And.intro (Mul_spec h _ _) ?_)
  refine Exists.intro _ (And.intro (Mul_spec h _ _) ?_)
  repeat (first | refine gT ?_ | refine gF ?_ | refine brT ?_ | refine brF ?_)
  refine brN (fun hh => absurd F1 hh) (fun _ => ?_)
  refine Exists.intro _ (And.intro (Mul_spec h _ _) ?_)
  refine Exists.intro _ (And.intro (Mul_spec h _ _) ?_)
  refine Exists.intro _ (And.intro (Mul_spec h _ _) ?_)
  refine Exists.intro _ (And.intro (Mod_spec h _) ?_)
  refine grN (fun hh => absurd F2 hh) (fun _ => ?_)
  repeat (first | refine gT ?_ | refine gF ?_ | refine brT ?_ | refine brF ?_)
  refine grN (fun hh => absurd F3 hh) (fun _ => ?_)
  repeat (first | refine gT ?_ | refine gF ?_ | refine brT ?_ | refine brF ?_)
  refine gr (fun hh => absurd hh (by omega)) (fun _ => ?_)
  repeat (first | refine gT ?_ | refine gF ?_ | refine brT ?_ | refine brF ?_)
  refine br (fun hh => absurd hh (by omega)) (fun _ => ?_)
  refine Exists.intro _ (And.intro (Pow_spec h _ hnb.1 (by omega)) ?_)
  refine Exists.intro _ (And.intro (Pow_spec h _ hmb.1 (by omega)) ?_)
  refine Exists.intro _ (And.intro (Pow_spec h _ (n := w64 (pickF n 1073741824 + pickF m 1073741824)) (by omega) (by omega)) ?_)
  refine Exists.intro _ (And.intro (Mul_spec h _ _) ?_)
  refine Exists.intro _ (And.intro (Inv_spec h _) ?_)
  have hmm : a % p % p = a % p := Int.emod_emod_of_dvd _ (Int.dvd_refl p)
  by_cases hz : a % p = 0
  · rw [if_pos (hmm.trans hz)]
    refine brE (fun _ => ?_) (fun hh => absurd hz hh)
    repeat (first | refine gT ?_ | refine gF ?_ | refine brT ?_ | refine brF ?_)
    exact And.intro (Or.inr rfl) rfl
  · rw [if_neg (fun hh => hz (hmm.symm.trans hh))]
    refine brE (fun hh => absurd hh hz) (fun _ => ?_)
    refine Exists.intro _ (And.intro (Mul_spec h _ _) ?_)
    refine Exists.intro _ (And.intro (Pow_spec h _ (n := w64 (p - 1)) (by omega) (by omega)) ?_)
    have F7 : (a % p) ^ (w64 (p - 1)).toNat % p = 1 := by rw [hw4]; exact h.fermat (fun hh => hz (hmm.symm.trans hh))
    have F6 : (a % p) * ((a % p) ^ (p - 2).toNat % p) % p = 1 := by
      have := h.fermat (x := a % p) (fun hh => hz (hmm.symm.trans hh))
      rw [mul_emod_r, ← this, show (p - 1).toNat = (p - 2).toNat + 1 by omega, Int.pow_succ, Int.mul_comm]
    repeat (first | refine gT ?_ | refine gF ?_ | refine brT ?_ | refine brF ?_)
    refine brE (fun _ => ?_) (fun hh => absurd F6 hh)
    repeat (first | refine gT ?_ | refine gF ?_ | refine brT ?_ | refine brF ?_)
    refine brE (fun _ => ?_) (fun hh => absurd F7 hh)
    repeat (first | refine gT ?_ | refine gF ?_ | refine brT ?_ | refine brF ?_)
    refine And.intro (Or.inr rfl) ?_
    show AV.bool ((_ : Int) == (_ : Int)) = AV.bool true
    rw [F5]; simp
theorem wf_I64 {x : Int} (h : (Lit.int .i64 x).wf = true) : I64 x := by
  simp only [Lit.wf, Bool.and_eq_true, decide_eq_true_eq] at h
  exact h
theorem field_spec (a b c n m p0 : Int) (_ha : (Lit.int .i64 a).wf = true) (_hb : (Lit.int .i64 b).wf = true) (_hc : (Lit.int .i64 c).wf = true) (hn : (Lit.int .i64 n).wf = true) (hm : (Lit.int .i64 m).wf = true) (hp : (Lit.int .i64 p0).wf = true) :
    Spec Tryd.prog glB4 7 [.int .i64 a, .int .i64 b, .int .i64 c, .int .i64 n, .int .i64 m, .int .i64 p0] (.bool true) :=
  field_walk (Pr.of (lawP_prime p0 (wf_I64 hp).1 (wf_I64 hp).2)) a b c n m p0 (wf_I64 hp) rfl (wf_I64 hn) (wf_I64 hm)
end Ab
