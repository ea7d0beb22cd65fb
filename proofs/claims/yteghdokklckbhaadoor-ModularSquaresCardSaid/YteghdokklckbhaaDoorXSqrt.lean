import Derived.Test.YteghdokklckbhaaDoorXMod2
import Derived.Test.YteghdokklckbhaaDoorXNt4
/-!
The contract of modular.Sqrt at a prime.
-/
open Go Go.Proofs
namespace Ab
set_option maxRecDepth 100000

theorem Pr.pi {p : Int} (h : Pr p) : Nt.PI p := ⟨h.lo, h.prm⟩

/-- the product of two pairs -/
def z1 (p d : Int) (x y : Int × Int) : Int := (w64 (x.1 * y.1 % p + x.2 * y.2 % p * d % p)).tmod p
def z2 (p : Int) (x y : Int × Int) : Int := (w64 (x.1 * y.2 % p + x.2 * y.1 % p)).tmod p
def InP (p : Int) (x : Int × Int) : Prop := (0 ≤ x.1 ∧ x.1 < p) ∧ (0 ≤ x.2 ∧ x.2 < p)
theorem z_in {p : Int} (h : Pr p) (d : Int) (x y : Int × Int) : InP p (z1 p d x y, z2 p x y) ∧ Nt.Cg p (z1 p d x y, z2 p x y) (Nt.qm d x y) := by
  have h1 := h.hi; have h2 := h.lo
  have a1 := h.mod (x.1 * y.1); have a2 := h.mod (x.2 * y.2 % p * d); have a3 := h.mod (x.1 * y.2); have a4 := h.mod (x.2 * y.1)
  have e1 : z1 p d x y = (x.1 * y.1 % p + x.2 * y.2 % p * d % p) % p := by
    unfold z1; rw [w64_eq (by omega), Int.tmod_eq_emod_of_nonneg (by omega)]
  have e2 : z2 p x y = (x.1 * y.2 % p + x.2 * y.1 % p) % p := by
    unfold z2; rw [w64_eq (by omega), Int.tmod_eq_emod_of_nonneg (by omega)]
  rw [e1, e2]
  refine ⟨⟨h.mod _, h.mod _⟩, ?_, ?_⟩
  · obtain ⟨a, ha⟩ := Nt.dvd_emod (p := p) (a := x.1 * y.1 % p + x.2 * y.2 % p * d % p)
    obtain ⟨b, hb⟩ := Nt.dvd_emod (p := p) (a := x.1 * y.1)
    obtain ⟨c, hc⟩ := Nt.dvd_emod (p := p) (a := x.2 * y.2 % p * d)
    obtain ⟨e, he⟩ := Nt.dvd_emod (p := p) (a := x.2 * y.2)
    exact ⟨a + b + c + e * d, by simp only [Nt.qm]; grind⟩
  · obtain ⟨a, ha⟩ := Nt.dvd_emod (p := p) (a := x.1 * y.2 % p + x.2 * y.1 % p)
    obtain ⟨b, hb⟩ := Nt.dvd_emod (p := p) (a := x.1 * y.2)
    obtain ⟨c, hc⟩ := Nt.dvd_emod (p := p) (a := x.2 * y.1)
    exact ⟨a + b + c, by simp only [Nt.qm]; grind⟩


theorem Sqrt_spec {p : Int} (h : Pr p) {m : Nat} (hm : p = 2 * m + 1) (a r : Int) (is : Bool)
    (hc : (a % p = 0 ∧ r = 0 ∧ is = true) ∨ (a % p ≠ 0 ∧ (a % p) ^ m % p = p - 1 ∧ r = 0 ∧ is = false) ∨ (a % p ≠ 0 ∧ (a % p) ^ m % p = 1 ∧ is = true ∧ 1 ≤ r ∧ 2 * r < p ∧ p ∣ r * r - a % p)) :
    Spec Tryd.prog glB4 26 [.int .i64 a, .int .i64 p] (.tup [.int .i64 r, .bool is, .int .i64 0]) := by
  have h1 := h.hi; have h2 := h.lo
  have hp0 : p ≠ 0 := by omega
  have hx := h.mod a
  have hw1 : w64 ((w64 (p - 1)).tdiv 2) = m := by
    rw [w64_eq (n := p - 1) (by omega), Int.tdiv_eq_ediv_of_nonneg (by omega), w64_eq (by omega)]; omega
  have hpm : ∀ {gl}, Spec Tryd.prog gl 32 [.int .i64 (a % p), .int .i64 (w64 ((w64 (p - 1)).tdiv 2)), .int .i64 p] (.int .i64 ((a % p) ^ m % p)) := fun {gl} => by
    have := power_eq h gl (n := w64 ((w64 (p - 1)).tdiv 2)) hx (by omega) (by omega)
    rwa [show (w64 ((w64 (p - 1)).tdiv 2)).toNat = m by omega] at this
  refine spec_fn T_ok mixed_ok 1 Tryd.func26 fn_ok26 (by kernel_rfl) ?_
  first | refine Exists.intro _ (And.intro (prime_eq h) ?_) | refine Hn_by (Exists.intro _ (And.intro (prime_eq h) ?_))
  repeat (first | refine gT ?_ | refine gF ?_ | refine brT ?_ | refine brF ?_)
  first | refine Exists.intro _ (And.intro (residue_eq h glB4 a) ?_) | refine Hn_by (Exists.intro _ (And.intro (residue_eq h glB4 a) ?_))
  refine And.intro (by decide) ?_
  first | refine Exists.intro _ (And.intro (hpm) ?_) | refine Hn_by (Exists.intro _ (And.intro (hpm) ?_))
  refine brE (fun h0 => ?_) (fun h0 => ?_)
  · have : r = 0 ∧ is = true := by
      rcases hc with hc | hc | hc
      · exact hc.2
      · omega
      · omega
    obtain ⟨rfl, rfl⟩ := this
    exact And.intro (Or.inr rfl) rfl
  · have hw2 : w64 (p - 1) = p - 1 := w64_eq (by omega)
    have hx0 : a % p ≠ 0 := fun e => h0 (by
      obtain ⟨k, rfl⟩ : ∃ k, m = k + 1 := ⟨m - 1, by omega⟩
      rw [e, Int.pow_succ, Int.mul_zero, Int.zero_emod])
    refine brE (fun h3 => ?_) (fun h3 => ?_)
    · have h3 := h3.trans hw2
      have : r = 0 ∧ is = false := by
        rcases hc with hc | hc | hc
        · exact absurd hc.1 hx0
        · exact hc.2.2
        · omega
      obtain ⟨rfl, rfl⟩ := this
      exact And.intro (Or.inr rfl) rfl
    · have h3 : (a % p) ^ m % p ≠ p - 1 := fun e => h3 (e.trans hw2.symm)
      have hc' : is = true ∧ 1 ≤ r ∧ 2 * r < p ∧ p ∣ r * r - a % p := by
        rcases hc with hc | hc | hc
        · exact absurd hc.1 hx0
        · exact absurd hc.2.1 h3
        · exact hc.2.2
      have hone : (a % p) ^ m % p = 1 := by
        rcases hc with hc | hc | hc
        · exact absurd hc.1 hx0
        · exact absurd hc.2.1 h3
        · exact hc.2.1
      clear hc
      obtain ⟨rfl, r1, r2, r3⟩ := hc'
      have hx1 : p ∣ (a % p) ^ m - 1 := by
        have := Int.emod_add_mul_ediv ((a % p) ^ m) p
        exact ⟨(a % p) ^ m / p, by omega⟩
      clear hone
      generalize hxx : a % p = x at *
      refine aw_loop (fun q : Int × Int => stOf [(0, .int .i64 x), (3, .bp 0 0), (8, .bp 1 0), (7, .int .i64 q.1)] [(0, .box [.int .i64 p]), (1, .box [.int .i64 q.2])] 2)
        (fun q => 0 ≤ q.1 ∧ q.1 ≤ r) (fun q => (r - q.1).toNat) (0, 0) ⟨by omega, by omega⟩ (le_by ⟨rfl, rfl, rfl, rfl, trivial⟩ ⟨rfl, rfl, trivial⟩ (Nat.le_refl _)) ?_
      rintro ⟨t, d0⟩ ⟨ht0, ht1⟩ P hP
      simp only at ht0 ht1
      have htt := h.mod (t * t)
      have hw3 : w64 (t * t % p - x) = t * t % p - x := w64_eq (by omega)
      obtain ⟨d, hdd⟩ : ∃ d, d = (t * t % p - x) % p := ⟨_, rfl⟩
      have hd := h.mod (t * t % p - x)
      rw [← hdd] at hd
      have hdc : p ∣ t * t - d - x := by
        obtain ⟨e, he⟩ := Nt.dvd_emod (p := p) (a := t * t)
        obtain ⟨f, hf⟩ := Nt.dvd_emod (p := p) (a := t * t % p - x)
        exact ⟨-e - f, by grind⟩
      have hres : Spec Tryd.prog glB4 40 [.int .i64 (w64 (t * t % p - x)), .int .i64 p] (.int .i64 d) := by
        have := residue_eq h glB4 (w64 (t * t % p - x))
        rwa [show w64 (t * t % p - x) % p = d by rw [hw3, hdd]] at this
      refine And.intro (by kernel_rfl) ?_
      repeat (first | refine And.intro rfl ?_ | first | refine Exists.intro _ (And.intro (times_eq h glB4 (a := t) (b := t) ⟨by omega, by omega⟩ ⟨by omega, by omega⟩) ?_) | refine Hn_by (Exists.intro _ (And.intro (times_eq h glB4 (a := t) (b := t) ⟨by omega, by omega⟩ ⟨by omega, by omega⟩) ?_)) | first | refine Exists.intro _ (And.intro (hres) ?_) | refine Hn_by (Exists.intro _ (And.intro (hres) ?_)))
      refine brE (fun hz => ?_) (fun hz => ?_)
      · have hroot : p ∣ t * t - x := by rw [hz] at hdc; simpa using hdc
        have hmin := Nt.min_root h.pi r3 hroot r1 r2 ht0 (by omega)
        have hw4 : w64 (p - t) = p - t := w64_eq (by omega)
        rw [← hw4] at hmin
        clear hP
        refine And.intro (Or.inr rfl) ?_
        show AV.tup [AV.int .i64 (if w64 (p - t) < t then w64 (p - t) else t), AV.bool true, AV.int .i64 0] = _
        rw [hmin]
      · have htr : t ≠ r := fun e => by
          subst e
          have h5 := Int.dvd_sub r3 hdc
          rw [show t * t - x - (t * t - d - x) = d by omega] at h5
          exact Nt.small_dvd hz (by omega) (by omega) h5
        have hpd : Spec Tryd.prog glB4 32 [.int .i64 d, .int .i64 (w64 ((w64 (p - 1)).tdiv 2)), .int .i64 p] (.int .i64 (d ^ m % p)) := by
          have := power_eq h glB4 (n := w64 ((w64 (p - 1)).tdiv 2)) hd (by omega) (by omega)
          rwa [show (w64 ((w64 (p - 1)).tdiv 2)).toNat = m by omega] at this
        refine And.intro (by kernel_rfl) ?_
        repeat (first | refine And.intro rfl ?_ | refine And.intro (show (2 : Int) ≠ 0 by decide) ?_ | first | refine Exists.intro _ (And.intro (hpd) ?_) | refine Hn_by (Exists.intro _ (And.intro (hpd) ?_)))
        refine brE (fun hn => ?_) (fun hn => ?_)
        · have hn := hn.trans hw2
          clear hP
          have hdm : p ∣ d ^ m + 1 := by
            have := Int.emod_add_mul_ediv (d ^ m) p
            exact ⟨d ^ m / p + 1, by rw [Int.mul_add]; omega⟩
          have hw6 : w64 ((w64 (p + 1)).tdiv 2) = ((m + 1 : Nat) : Int) := by
            rw [w64_eq (n := p + 1) (by omega), Int.tdiv_eq_ediv_of_nonneg (by omega), w64_eq (by omega)]; omega
          refine And.intro (show (2 : Int) ≠ 0 by decide) ?_
          refine aw_loop (fun q : (Int × Int) × (Int × Int) × Nat => stOf [(3, .bp 0 0), (8, .bp 1 0), (9, .fn 46 [.bp 0 0, .bp 1 0]), (10, .bp 2 0), (11, .bp 3 0), (12, .int .i64 (q.2.2 : Int))]
              [(0, .box [.int .i64 p]), (1, .box [.int .i64 d]), (2, .box [.int .i64 q.1.1, .int .i64 q.1.2]), (3, .box [.int .i64 q.2.1.1, .int .i64 q.2.1.2])] 4)
            (fun q => InP p q.1 ∧ InP p q.2.1 ∧ q.2.2 ≤ m + 1 ∧ Nt.Cg p (Nt.qm d q.1 (Nt.qp d q.2.1 q.2.2)) (Nt.qp d (t, 1) (m + 1))) (fun q => q.2.2) ((1, 0), (t, 1), m + 1)
            ⟨⟨⟨by show (0 : Int) ≤ 1; decide, by show (1 : Int) < p; omega⟩, by show (0 : Int) ≤ 0; decide, by show (0 : Int) < p; omega⟩, ⟨⟨ht0, by show t < p; omega⟩, by show (0 : Int) ≤ 1; decide, by show (1 : Int) < p; omega⟩, Nat.le_refl _, by rw [Nt.pm_one]; exact Nt.Cg.refl _ _⟩
            (le_by ⟨rfl, rfl, rfl, rfl, rfl, int_eq hw6, trivial⟩ ⟨rfl, rfl, rfl, rfl, trivial⟩ (Nat.le_refl _)) ?_
          rintro ⟨⟨u1, u2⟩, ⟨b1, b2⟩, n⟩ ⟨hu, hb, hn1, hcg⟩ P hP
          simp only at hu hb hn1 hcg
          refine br (fun hn0 => ?_) (fun hn0 => ?_)
          · refine And.intro (show (2 : Int) ≠ 0 by decide) ?_
            have hw7 : w64 ((n : Int).tdiv 2) = ((n / 2 : Nat) : Int) := by rw [Int.tdiv_eq_ediv_of_nonneg (show (0 : Int) ≤ (n : Int) by omega), w64_eq (show -9223372036854775808 ≤ (n : Int) / 2 ∧ (n : Int) / 2 ≤ 9223372036854775807 by omega)]; omega
            have hzb := z_in h d (b1, b2) (b1, b2)
            have hn0' : 0 < n := by have : (n : Int) > 0 := hn0; omega
            refine brE (fun ho => ?_) (fun ho => ?_)
            · have hzu := z_in h d (u1, u2) (b1, b2)
              have ho' : (n : Int).tmod 2 = 1 := ho
              rw [Int.tmod_eq_emod_of_nonneg (show (0 : Int) ≤ (n : Int) by omega)] at ho'
              refine Hn_cut Tryd.f46 Tryd.func46 fn_ok46 (by kernel_rfl) ?_
              refine And.intro (by kernel_rfl) ?_
              repeat (first | refine And.intro rfl ?_ | refine And.intro hp0 ?_ | first | refine Exists.intro _ (And.intro (times_eq h glB4 (hu).2 (hb).2) ?_) | refine Hn_by (Exists.intro _ (And.intro (times_eq h glB4 (hu).2 (hb).2) ?_)) | first | refine Exists.intro _ (And.intro (times_eq h glB4 (h.mod _) hd) ?_) | refine Hn_by (Exists.intro _ (And.intro (times_eq h glB4 (h.mod _) hd) ?_)) | first | refine Exists.intro _ (And.intro (times_eq h glB4 (hu).1 (hb).1) ?_) | refine Hn_by (Exists.intro _ (And.intro (times_eq h glB4 (hu).1 (hb).1) ?_)) | first | refine Exists.intro _ (And.intro (times_eq h glB4 (hu).1 (hb).2) ?_) | refine Hn_by (Exists.intro _ (And.intro (times_eq h glB4 (hu).1 (hb).2) ?_)) | first | refine Exists.intro _ (And.intro (times_eq h glB4 (hu).2 (hb).1) ?_) | refine Hn_by (Exists.intro _ (And.intro (times_eq h glB4 (hu).2 (hb).1) ?_)))
              refine And.intro (Or.inr rfl) (And.intro rfl (And.intro ⟨rfl, rfl, rfl, rfl, trivial⟩ ?_))
              refine Hn_cut Tryd.f46 Tryd.func46 fn_ok46 (by kernel_rfl) ?_
              refine And.intro (by kernel_rfl) ?_
              repeat (first | refine And.intro rfl ?_ | refine And.intro hp0 ?_ | first | refine Exists.intro _ (And.intro (times_eq h glB4 (hb).2 (hb).2) ?_) | refine Hn_by (Exists.intro _ (And.intro (times_eq h glB4 (hb).2 (hb).2) ?_)) | first | refine Exists.intro _ (And.intro (times_eq h glB4 (h.mod _) hd) ?_) | refine Hn_by (Exists.intro _ (And.intro (times_eq h glB4 (h.mod _) hd) ?_)) | first | refine Exists.intro _ (And.intro (times_eq h glB4 (hb).1 (hb).1) ?_) | refine Hn_by (Exists.intro _ (And.intro (times_eq h glB4 (hb).1 (hb).1) ?_)) | first | refine Exists.intro _ (And.intro (times_eq h glB4 (hb).1 (hb).2) ?_) | refine Hn_by (Exists.intro _ (And.intro (times_eq h glB4 (hb).1 (hb).2) ?_)) | first | refine Exists.intro _ (And.intro (times_eq h glB4 (hb).2 (hb).1) ?_) | refine Hn_by (Exists.intro _ (And.intro (times_eq h glB4 (hb).2 (hb).1) ?_)))
              refine And.intro (Or.inr rfl) (And.intro rfl (And.intro ⟨rfl, rfl, rfl, rfl, trivial⟩ ?_))
              refine And.intro (show (2 : Int) ≠ 0 by decide) ?_
              refine hP ((z1 p d (u1, u2) (b1, b2), z2 p (u1, u2) (b1, b2)), (z1 p d (b1, b2) (b1, b2), z2 p (b1, b2) (b1, b2)), n / 2) _ (le_by ⟨rfl, rfl, rfl, rfl, rfl, int_eq hw7, trivial⟩ ⟨rfl, rfl, rfl, rfl, trivial⟩ (Nat.le_refl _))
                ⟨hzu.1, hzb.1, by show n / 2 ≤ m + 1; omega, ?_⟩ (by show n / 2 < n; omega)
              refine Nt.Cg.trans ?_ hcg
              have e1 : n = n / 2 + n / 2 + 1 := by omega
              have g1 := Nt.Cg.qp (show p ∣ d - d by simp) hzb.2 (n / 2)
              have g2 := Nt.Cg.qm (show p ∣ d - d by simp) hzu.2 g1
              rw [Nt.pp_dbl] at g2
              conv => rhs; rw [e1, Nt.qp, ← Nt.pm_assoc]
              exact g2
            · have ho' : (n : Int).tmod 2 ≠ 1 := ho
              rw [Int.tmod_eq_emod_of_nonneg (show (0 : Int) ≤ (n : Int) by omega)] at ho'
              refine Hn_cut Tryd.f46 Tryd.func46 fn_ok46 (by kernel_rfl) ?_
              refine And.intro (by kernel_rfl) ?_
              repeat (first | refine And.intro rfl ?_ | refine And.intro hp0 ?_ | first | refine Exists.intro _ (And.intro (times_eq h glB4 (hb).2 (hb).2) ?_) | refine Hn_by (Exists.intro _ (And.intro (times_eq h glB4 (hb).2 (hb).2) ?_)) | first | refine Exists.intro _ (And.intro (times_eq h glB4 (h.mod _) hd) ?_) | refine Hn_by (Exists.intro _ (And.intro (times_eq h glB4 (h.mod _) hd) ?_)) | first | refine Exists.intro _ (And.intro (times_eq h glB4 (hb).1 (hb).1) ?_) | refine Hn_by (Exists.intro _ (And.intro (times_eq h glB4 (hb).1 (hb).1) ?_)) | first | refine Exists.intro _ (And.intro (times_eq h glB4 (hb).1 (hb).2) ?_) | refine Hn_by (Exists.intro _ (And.intro (times_eq h glB4 (hb).1 (hb).2) ?_)) | first | refine Exists.intro _ (And.intro (times_eq h glB4 (hb).2 (hb).1) ?_) | refine Hn_by (Exists.intro _ (And.intro (times_eq h glB4 (hb).2 (hb).1) ?_)))
              refine And.intro (Or.inr rfl) (And.intro rfl (And.intro ⟨rfl, rfl, rfl, rfl, trivial⟩ ?_))
              refine And.intro (show (2 : Int) ≠ 0 by decide) ?_
              refine hP ((u1, u2), (z1 p d (b1, b2) (b1, b2), z2 p (b1, b2) (b1, b2)), n / 2) _ (le_by ⟨rfl, rfl, rfl, rfl, rfl, int_eq hw7, trivial⟩ ⟨rfl, rfl, rfl, rfl, trivial⟩ (Nat.le_refl _))
                ⟨hu, hzb.1, by show n / 2 ≤ m + 1; omega, ?_⟩ (by show n / 2 < n; omega)
              refine Nt.Cg.trans ?_ hcg
              have e1 : n = n / 2 + n / 2 := by omega
              have g1 := Nt.Cg.qp (show p ∣ d - d by simp) hzb.2 (n / 2)
              have g2 := Nt.Cg.qm (show p ∣ d - d by simp) (Nt.Cg.refl p (u1, u2)) g1
              rw [Nt.pp_dbl] at g2
              conv => rhs; rw [e1]
              exact g2
          · have hn0' : n = 0 := by have : ¬ (n : Int) > 0 := hn0; omega
            subst hn0'
            clear hP
            rw [Nt.qp, Nt.pm_comm, Nt.pm_one] at hcg
            have hroot := Nt.cipolla h.pi hm hdm hdc hx1 hcg
            have hmin := Nt.min_root h.pi r3 hroot r1 r2 hu.1.1 hu.1.2
            have hw8 : w64 (p - u1) = p - u1 := w64_eq (by omega)
            simp only at hmin
            rw [← hw8] at hmin
            refine And.intro (Or.inr rfl) ?_
            show AV.tup [AV.int .i64 (if w64 (p - u1) < u1 then w64 (p - u1) else u1), AV.bool true, AV.int .i64 0] = _
            rw [hmin]
        · have hw5 : w64 (t + 1) = t + 1 := w64_eq (by omega)
          exact hP (t + 1, d) _ (le_by ⟨rfl, rfl, rfl, int_eq hw5, trivial⟩ ⟨rfl, rfl, trivial⟩ (Nat.le_refl _)) ⟨by show 0 ≤ t + 1; omega, by show t + 1 ≤ r; omega⟩ (by show (r - (t + 1)).toNat < (r - t).toNat; omega)
end Ab
