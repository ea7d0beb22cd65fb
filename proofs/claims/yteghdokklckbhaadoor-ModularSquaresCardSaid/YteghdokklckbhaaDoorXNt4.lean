import Derived.Test.YteghdokklckbhaaDoorXNt3
/-!
Cipolla's root.
-/
namespace Nt

theorem C_self : ∀ n, C n n = 1
  | 0 => rfl
  | n + 1 => by rw [C, C_self n, C_lt n (n + 1) (by omega)]
theorem pp_sc (d e : Int) : ∀ m, qp d (e, 0) m = (e ^ m, 0)
  | 0 => by simp [qp]
  | m + 1 => by rw [qp, pp_sc d e m]; unfold qm; ext <;> simp only [Int.pow_succ] <;> grind
theorem pp_w (d : Int) (m : Nat) : qp d (0, 1) (m + m) = (d ^ m, 0) := by
  rw [← pp_dbl, show qm d (0, 1) (0, 1) = (d, 0) by unfold qm; ext <;> simp, pp_sc]
theorem frob {p : Int} (h : PI p) {m : Nat} (hm : p = 2 * m + 1) {d : Int} (hd : p ∣ d ^ m + 1) (t : Int) : Cg p (qp d (t, 1) p.toNat) (t, -1) := by
  have h1 := h.lo
  have e := h.nat
  have main : ∀ k : Nat, k + 1 ≤ p.toNat → Cg p (bs d t p.toNat (k + 1)) (t ^ p.toNat, 0) := by
    intro k
    induction k with
    | zero =>
      intro _
      simp [bs, pa, sm, qp, C]
      exact Cg.refl _ _
    | succ k ih =>
      intro hk
      have ih := ih (by omega)
      obtain ⟨c, hc⟩ := h.prm.dvd_C (k := k + 1) (by omega) (by omega)
      have ec : ((C p.toNat (k + 1) : Nat) : Int) = p * c := by rw [hc, Int.natCast_mul, e]
      show Cg p (pa (bs d t p.toNat (k + 1)) (sm (C p.toNat (k + 1) * t ^ (p.toNat - (k + 1))) (qp d (0, 1) (k + 1)))) (t ^ p.toNat, 0)
      rw [ec]
      generalize qp d (0, 1) (k + 1) = W
      generalize t ^ (p.toNat - (k + 1)) = T
      obtain ⟨⟨a, ha⟩, b, hb⟩ := ih
      generalize bs d t p.toNat (k + 1) = X at *
      constructor
      · exact ⟨a + c * T * W.1, by simp only [pa, sm] at *; grind⟩
      · exact ⟨b + c * T * W.2, by simp only [pa, sm] at *; grind⟩
  rw [bs_all]
  have hk := main (p.toNat - 1) (by omega)
  rw [show p.toNat - 1 + 1 = p.toNat by omega] at hk
  show Cg p (pa (bs d t p.toNat p.toNat) (sm (C p.toNat p.toNat * t ^ (p.toNat - p.toNat)) (qp d (0, 1) p.toNat))) (t, -1)
  rw [C_self, Nat.sub_self, Int.pow_zero]
  have ew : qp d (0, 1) p.toNat = (0, d ^ m) := by
    rw [show p.toNat = (m + m) + 1 by omega, qp, pp_w]
    unfold qm; ext <;> simp
  rw [ew]
  obtain ⟨⟨a, ha⟩, b, hb⟩ := hk
  obtain ⟨f, hf⟩ := fermatI' h t
  obtain ⟨g, hg⟩ := hd
  generalize bs d t p.toNat p.toNat = X at *
  constructor
  · exact ⟨a + f, by simp only [pa, sm] at *; grind⟩
  · exact ⟨b + g, by simp only [pa, sm] at *; grind⟩

/-- the half of the power of t + sqrt(d) is a root of the norm -/
theorem cipolla {p : Int} (h : PI p) {m : Nat} (hm : p = 2 * m + 1) {d t x : Int} (hd : p ∣ d ^ m + 1) (hx : p ∣ t * t - d - x) (hx1 : p ∣ x ^ m - 1) {u : Pr2} (hu : Cg p u (qp d (t, 1) (m + 1))) : p ∣ u.1 * u.1 - x := by
  have h1 := h.lo
  have e := h.nat
  have hf := frob h hm hd t
  have hsq : Cg p (qm d u u) (qp d (t, 1) ((m + 1) + (m + 1))) := by
    rw [pp_add]; exact Cg.qm (by simp) hu hu
  have e1 : (m + 1) + (m + 1) = p.toNat + 1 := by omega
  rw [e1, qp] at hsq
  have hn : Cg p (qm d (t, 1) (qp d (t, 1) p.toNat)) (qm d (t, 1) (t, -1)) := Cg.qm (by simp) (Cg.refl _ _) hf
  have hall := hsq.trans hn
  obtain ⟨u1, u2⟩ := u
  obtain ⟨ha, hb⟩ := hall
  simp only [qm] at ha hb ⊢
  have hb' : p ∣ 2 * (u1 * u2) := by
    have e2 : u1 * u2 + u2 * u1 - (t * -1 + 1 * t) = 2 * (u1 * u2) := by grind
    rwa [e2] at hb
  have h2 : ¬ p ∣ 2 := small_dvd (by decide) (by omega) (by omega)
  have huv : p ∣ u1 ∨ p ∣ u2 := by
    rcases h.mul hb' with h3 | h3
    · exact absurd h3 h2
    · exact h.mul h3
  have hN : p ∣ u1 * u1 + d * (u2 * u2) - x := by
    have := Int.dvd_add ha hx
    have e2 : u1 * u1 + d * (u2 * u2) - (t * t + d * (1 * -1)) + (t * t - d - x) = u1 * u1 + d * (u2 * u2) - x := by grind
    rwa [e2] at this
  rcases huv with h3 | h3
  · -- u1 = 0
    exfalso
    have hdv : p ∣ d * (u2 * u2) - x := by
      have := Int.dvd_sub hN (show p ∣ u1 * u1 from Int.dvd_mul_of_dvd_left h3)
      have e2 : u1 * u1 + d * (u2 * u2) - x - u1 * u1 = d * (u2 * u2) - x := by omega
      rwa [e2] at this
    have hxn : ¬ p ∣ x := fun hdx => by
      have hp : p ∣ x ^ m := by
        obtain ⟨k, rfl⟩ : ∃ k, m = k + 1 := ⟨m - 1, by omega⟩
        rw [Int.pow_succ]; exact Int.dvd_mul_of_dvd_right hdx
      have := Int.dvd_sub hp hx1
      rw [show x ^ m - (x ^ m - 1) = 1 by omega] at this
      exact small_dvd (by decide) (by omega) (by omega) this
    have hvn : ¬ p ∣ u2 := fun hdv2 => hxn (by
      have h4 : p ∣ d * (u2 * u2) := Int.dvd_mul_of_dvd_right (Int.dvd_mul_of_dvd_left hdv2)
      have := Int.dvd_sub h4 hdv
      rwa [show d * (u2 * u2) - (d * (u2 * u2) - x) = x by omega] at this)
    have hc := pow_congr hdv m
    rw [Int.mul_pow] at hc
    have hs := sq_half h hm (s := u2) (x := u2 * u2) (fun hd => by rcases h.mul hd with h | h <;> exact hvn h) (by simp)
    obtain ⟨a, ha⟩ := hc; obtain ⟨b, hb⟩ := hs; obtain ⟨c, hc⟩ := hd; obtain ⟨f, hf⟩ := hx1
    refine h2 ⟨-(a + f) + c * (u2 * u2) ^ m - b, ?_⟩
    grind
  · have := Int.dvd_sub hN (show p ∣ d * (u2 * u2) from Int.dvd_mul_of_dvd_right (Int.dvd_mul_of_dvd_left h3))
    rwa [show u1 * u1 + d * (u2 * u2) - x - d * (u2 * u2) = u1 * u1 - x by omega] at this

/-- roots are alike but for the sign -/
theorem roots {p : Int} (h : PI p) {s u x : Int} (hs : p ∣ s * s - x) (hu : p ∣ u * u - x) : p ∣ u - s ∨ p ∣ u + s := by
  have := Int.dvd_sub hu hs
  have e : u * u - x - (s * s - x) = (u - s) * (u + s) := by grind
  rw [e] at this
  exact h.mul this
theorem min_root {p : Int} (h : PI p) {s u x : Int} (hs : p ∣ s * s - x) (hu : p ∣ u * u - x) (s1 : 1 ≤ s) (s2 : 2 * s < p) (u0 : 0 ≤ u) (u1 : u < p) : (if p - u < u then p - u else u) = s := by
  rcases roots h hs hu with hd | hd
  · have : u = s := by
      exact Classical.byContradiction fun hn => small_dvd (by omega) (by omega) (by omega) hd
    subst this; rw [if_neg (by omega)]
  · have : u = p - s := by
      have hd' : p ∣ u + s - p := Int.dvd_sub hd (Int.dvd_refl p)
      exact Classical.byContradiction fun hn => small_dvd (by omega) (by omega) (by omega) hd'
    subst this; rw [if_pos (by omega)]; omega
end Nt
