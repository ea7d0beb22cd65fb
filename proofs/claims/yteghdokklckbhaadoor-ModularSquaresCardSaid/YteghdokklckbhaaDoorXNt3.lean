import Derived.Test.YteghdokklckbhaaDoorXNt2
/-!
The field with p^2 elements: Frobenius, and Cipolla's root.
-/
namespace Nt

abbrev Pr2 := Int × Int
def qm (d : Int) (x y : Pr2) : Pr2 := (x.1 * y.1 + d * (x.2 * y.2), x.1 * y.2 + x.2 * y.1)
def qp (d : Int) (x : Pr2) : Nat → Pr2
  | 0 => (1, 0)
  | n + 1 => qm d x (qp d x n)
def Cg (p : Int) (x y : Pr2) : Prop := p ∣ x.1 - y.1 ∧ p ∣ x.2 - y.2

theorem pm_comm (d : Int) (x y : Pr2) : qm d x y = qm d y x := by
  unfold qm; ext <;> simp only <;> grind
theorem pm_assoc (d : Int) (x y z : Pr2) : qm d (qm d x y) z = qm d x (qm d y z) := by
  unfold qm; ext <;> simp only <;> grind
theorem pm_one (d : Int) (x : Pr2) : qm d (1, 0) x = x := by
  unfold qm; ext <;> simp
theorem pp_add (d : Int) (x : Pr2) (m : Nat) : ∀ n, qp d x (n + m) = qm d (qp d x n) (qp d x m)
  | 0 => by rw [Nat.zero_add, qp, pm_one]
  | n + 1 => by rw [show n + 1 + m = (n + m) + 1 by omega, qp, pp_add d x m n, qp, pm_assoc]
theorem pp_dbl (d : Int) (x : Pr2) : ∀ n, qp d (qm d x x) n = qp d x (n + n)
  | 0 => rfl
  | n + 1 => by rw [qp, pp_dbl d x n, show n + 1 + (n + 1) = (n + n + 1) + 1 by omega, qp, qp, pm_assoc]
theorem Cg.refl (p : Int) (x : Pr2) : Cg p x x := ⟨by simp, by simp⟩
theorem Cg.symm {p : Int} {x y : Pr2} (h : Cg p x y) : Cg p y x := ⟨(Int.dvd_neg.2 h.1 |> fun h => by rwa [Int.neg_sub] at h), (Int.dvd_neg.2 h.2 |> fun h => by rwa [Int.neg_sub] at h)⟩
theorem Cg.trans {p : Int} {x y z : Pr2} (h : Cg p x y) (g : Cg p y z) : Cg p x z :=
  ⟨by have := Int.dvd_add h.1 g.1; rwa [show x.1 - y.1 + (y.1 - z.1) = x.1 - z.1 by omega] at this, by have := Int.dvd_add h.2 g.2; rwa [show x.2 - y.2 + (y.2 - z.2) = x.2 - z.2 by omega] at this⟩
theorem Cg.qm {p d d' : Int} (hd : p ∣ d - d') {x x' y y' : Pr2} (h : Cg p x x') (g : Cg p y y') : Cg p (qm d x y) (qm d' x' y') := by
  obtain ⟨⟨a, ha⟩, b, hb⟩ := h
  obtain ⟨⟨c, hc⟩, e, he⟩ := g
  obtain ⟨f, hf⟩ := hd
  obtain ⟨x1, x2⟩ := x; obtain ⟨x1', x2'⟩ := x'; obtain ⟨y1, y2⟩ := y; obtain ⟨y1', y2'⟩ := y'
  simp only at ha hb hc he
  have e1 : x1 = x1' + p * a := by omega
  have e2 : x2 = x2' + p * b := by omega
  have e3 : y1 = y1' + p * c := by omega
  have e4 : y2 = y2' + p * e := by omega
  have e5 : d = d' + p * f := by omega
  subst e1; subst e2; subst e3; subst e4; subst e5
  unfold Nt.qm
  constructor
  · exact ⟨a * y1' + x1' * c + p * a * c + f * ((x2' + p * b) * (y2' + p * e)) + d' * (b * y2' + x2' * e + p * b * e), by simp only; grind⟩
  · exact ⟨a * y2' + x1' * e + p * a * e + b * y1' + x2' * c + p * b * c, by simp only; grind⟩
theorem Cg.qp {p d d' : Int} (hd : p ∣ d - d') {x x' : Pr2} (h : Cg p x x') : ∀ n, Cg p (qp d x n) (qp d' x' n)
  | 0 => Cg.refl _ _
  | n + 1 => Cg.qm hd h (Cg.qp hd h n)

/-- scalars -/
def sm (k : Int) (x : Pr2) : Pr2 := (k * x.1, k * x.2)
def pa (x y : Pr2) : Pr2 := (x.1 + y.1, x.2 + y.2)

/-- the binomial sum -/
def bs (d t : Int) (n : Nat) : Nat → Pr2
  | 0 => (0, 0)
  | m + 1 => pa (bs d t n m) (sm (C n m * t ^ (n - m)) (qp d (0, 1) m))

theorem bs_succ (d t : Int) (n : Nat) : ∀ m, m ≤ n → bs d t (n + 1) (m + 1) = pa (sm t (bs d t n (m + 1))) (qm d (0, 1) (bs d t n m))
  | 0, _ => by
      simp only [bs, C, pa, sm, qm, qp]
      ext <;> simp [Int.pow_succ] <;> grind
  | m + 1, h => by
      have ih := bs_succ d t n m (by omega)
      have e1 : bs d t (n + 1) (m + 1 + 1) = pa (bs d t (n + 1) (m + 1)) (sm (C (n + 1) (m + 1) * t ^ (n + 1 - (m + 1))) (qp d (0, 1) (m + 1))) := rfl
      have e2 : bs d t n (m + 1 + 1) = pa (bs d t n (m + 1)) (sm (C n (m + 1) * t ^ (n - (m + 1))) (qp d (0, 1) (m + 1))) := rfl
      have e3 : bs d t n (m + 1) = pa (bs d t n m) (sm (C n m * t ^ (n - m)) (qp d (0, 1) m)) := rfl
      have e4 : qp d (0, 1) (m + 1) = qm d (0, 1) (qp d (0, 1) m) := rfl
      have e5 : C (n + 1) (m + 1) = C n m + C n (m + 1) := rfl
      have e6 : t ^ (n + 1 - (m + 1)) = t ^ (n - m) := by congr 1; omega
      have e7 : t ^ (n - m) = t ^ (n - (m + 1)) * t := by rw [← Int.pow_succ]; congr 1; omega
      rw [e1, ih, e2, e5, e6, e4]
      generalize hX : bs d t n (m + 1) = X at *
      generalize hY : bs d t n m = Y at *
      generalize hW : qp d (0, 1) m = W at *
      rw [e3]
      rw [Int.natCast_add]
      generalize ((C n m : Nat) : Int) = c1 at *
      generalize ((C n (m + 1) : Nat) : Int) = c2 at *
      rw [e7]
      generalize t ^ (n - (m + 1)) = T at *
      obtain ⟨y1, y2⟩ := Y; obtain ⟨w1, w2⟩ := W
      simp only [pa, sm, qm]
      ext <;> simp only <;> grind

theorem bs_all (d t : Int) : ∀ n, qp d (t, 1) n = bs d t n (n + 1)
  | 0 => by simp [qp, bs, pa, sm, C]
  | n + 1 => by
      have h1 := bs_succ d t n n (Nat.le_refl n)
      have e1 : bs d t (n + 1) (n + 1 + 1) = pa (bs d t (n + 1) (n + 1)) (sm (C (n + 1) (n + 1) * t ^ (n + 1 - (n + 1))) (qp d (0, 1) (n + 1))) := rfl
      have e3 : bs d t n (n + 1) = pa (bs d t n n) (sm (C n n * t ^ (n - n)) (qp d (0, 1) n)) := rfl
      have e4 : qp d (0, 1) (n + 1) = qm d (0, 1) (qp d (0, 1) n) := rfl
      have e5 : C (n + 1) (n + 1) = C n n + C n (n + 1) := rfl
      have e6 : C n (n + 1) = 0 := C_lt n (n + 1) (by omega)
      rw [e1, h1, qp, bs_all d t n, e4, e5, e6]
      rw [Nat.sub_self, Nat.add_zero]
      rw [e3]
      rw [Nat.sub_self]
      generalize bs d t n n = Y
      generalize qp d (0, 1) n = W
      generalize ((C n n : Nat) : Int) = c1
      obtain ⟨y1, y2⟩ := Y; obtain ⟨w1, w2⟩ := W
      simp only [pa, sm, qm, Int.pow_zero]
      ext <;> simp only <;> grind
end Nt
