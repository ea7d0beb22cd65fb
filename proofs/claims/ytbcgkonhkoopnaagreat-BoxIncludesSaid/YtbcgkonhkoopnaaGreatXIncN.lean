import Derived.Test.YtbcgkonhkoopnaaGreatXIncM
/-!
The law BoxIncludes: plain.
-/
open Go Go.Proofs
namespace Ab
set_option maxRecDepth 100000

theorem inner_ok {lo hi n : Int} (h : lo ≤ hi) (h1 : -MF ≤ lo) (h2 : hi ≤ MF) (hn : I64 n) : Spec Tryz.prog [] 39 [.int .i64 lo, .int .i64 hi, .int .i64 n] (.int .i64 (innerF lo hi n)) ∧ lo ≤ innerF lo hi n ∧ innerF lo hi n ≤ hi := by
  obtain ⟨a, b, c⟩ := inner_in h h1 h2 hn
  exact ⟨inner_spec lo hi n a, b, c⟩
theorem add_has {a b : Bx} (ha : Vb a) (hb : Vb b) {x y u v : Int} (h1 : a.a ≤ x ∧ x ≤ a.b) (h2 : a.c ≤ y ∧ y ≤ a.d) (h3 : b.a ≤ u ∧ u ≤ b.b) (h4 : b.c ≤ v ∧ v ≤ b.d) (hw : (applyF addF a b).w = false) :
    ¬ x + u < (applyF addF a b).a ∧ ¬ x + u > (applyF addF a b).b ∧ ¬ y + v < (applyF addF a b).c ∧ ¬ y + v > (applyF addF a b).d := by
  rw [apply_vb ha hb] at hw ⊢
  rcases checked_cases (addF a b) with e | ⟨e, _⟩
  · rw [e] at hw; exact absurd hw (by decide)
  · rw [e]
    obtain ⟨_, a1, a2, a3, a4, a5, a6⟩ := ha
    obtain ⟨_, b1, b2, b3, b4, b5, b6⟩ := hb
    unfold MF at *
    unfold addF
    simp only
    rw [w64_eq (n := a.a + b.a) (by omega), w64_eq (n := a.b + b.b) (by omega), w64_eq (n := a.c + b.c) (by omega), w64_eq (n := a.d + b.d) (by omega)]
    omega
theorem w_add {x y : Int} (hx : Sm x) (hy : Sm y) : w64 (x + y) = x + y := by
  unfold Sm MF at *
  exact w64_eq (by omega)
theorem w_sub {x y : Int} (hx : Sm x) (hy : Sm y) : w64 (x - y) = x - y := by
  unfold Sm MF at *
  exact w64_eq (by omega)
theorem mul_has {a b m : Bx} (ha : Vb a) (hb : Vb b) (hm : MulOk a b m) {x y u v : Int} (h1 : a.a ≤ x ∧ x ≤ a.b) (h2 : a.c ≤ y ∧ y ≤ a.d) (h3 : b.a ≤ u ∧ u ≤ b.b) (h4 : b.c ≤ v ∧ v ≤ b.d) :
    m.a * 16777216 ≤ x * u - y * v ∧ x * u - y * v ≤ m.b * 16777216 ∧ m.c * 16777216 ≤ x * v + y * u ∧ x * v + y * u ≤ m.d * 16777216 := by
  have t1 := times_ok hm.c1 ha.2.1 hb.2.1
  have t2 := times_ok hm.c2 ha.2.2.1 hb.2.2.1
  have t3 := times_ok hm.c3 ha.2.1 hb.2.2.1
  have t4 := times_ok hm.c4 ha.2.2.1 hb.2.1
  have ea := hm.ea
  have eb := hm.eb
  have ec := hm.ec
  have ed := hm.ed
  have a1 := t1.lo x u h1.1 h1.2 h3.1 h3.2
  have a2 := t1.hi x u h1.1 h1.2 h3.1 h3.2
  have a3 := t2.lo y v h2.1 h2.2 h4.1 h4.2
  have a4 := t2.hi y v h2.1 h2.2 h4.1 h4.2
  have a5 := t3.lo x v h1.1 h1.2 h4.1 h4.2
  have a6 := t3.hi x v h1.1 h1.2 h4.1 h4.2
  have a7 := t4.lo y u h2.1 h2.2 h3.1 h3.2
  have a8 := t4.hi y u h2.1 h2.2 h3.1 h3.2
  omega
theorem inc_law (p1 p2 p3 p4 p5 q1 q2 q3 q4 q5 i j k l : Int) (h1 : I64 p1) (h2 : I64 p2) (h3 : I64 p3) (h4 : I64 p4) (h5 : I64 p5) (k1 : I64 q1) (k2 : I64 q2) (k3 : I64 q3) (k4 : I64 q4) (k5 : I64 q5) (hi : I64 i) (hj : I64 j) (hk : I64 k) (hl : I64 l) :
    Spec Tryz.prog [] 10 [par p1 p2 p3 p4 p5, par q1 q2 q3 q4 q5, .int .i64 i, .int .i64 j, .int .i64 k, .int .i64 l] (.bool true) := by
  obtain ⟨sa, va⟩ := made_ok h1 h2 h3 h4 h5
  obtain ⟨sb, vb⟩ := made_ok k1 k2 k3 k4 k5
  generalize madeF p1 p2 p3 p4 p5 = a at sa va
  generalize madeF q1 q2 q3 q4 q5 = b at sb vb
  obtain ⟨_, a1, a2, a3, a4, a5, a6⟩ := id va
  obtain ⟨_, b1, b2, b3, b4, b5, b6⟩ := id vb
  obtain ⟨sx, hx⟩ := inner_ok a1 a3 a4 hi
  obtain ⟨sy, hy⟩ := inner_ok a2 a5 a6 hj
  obtain ⟨su, hu⟩ := inner_ok b1 b3 b4 hk
  obtain ⟨sv, hv⟩ := inner_ok b2 b5 b6 hl
  generalize innerF a.a a.b i = x at sx hx
  generalize innerF a.c a.d j = y at sy hy
  generalize innerF b.a b.b k = u at su hu
  generalize innerF b.c b.d l = v at sv hv
  have mx' : Sm x := by unfold Sm; omega
  have my' : Sm y := by unfold Sm; omega
  have mu' : Sm u := by unfold Sm; omega
  have mv' : Sm v := by unfold Sm; omega
  obtain ⟨en, vn⟩ := neg_vb vb
  obtain ⟨en2, vn2⟩ := neg_vb va
  have ss : subF a b = applyF addF a ⟨-b.b, -b.a, -b.d, -b.c, false⟩ := by unfold subF; rw [en]
  have sn := neg_spec a
  rw [en2] at sn
  have mm := mul_cases va vb
  refine inc_walk _ _ i j k l x y u v a b _ _ _ _ _ _ ⟨_, _, _, _, _, rfl⟩ ⟨_, _, _, _, _, rfl⟩ sa sb sx sy su sv (add_spec a b) (sub_spec a b) (mul_spec a b) sn ?_ ?_ ?_ (product_int x u y v true mx' mu' my' mv') ?_ (product_int x v y u false mx' mv' my' mu') ?_ ⟨_, _, rfl⟩ ⟨_, _, rfl⟩
  · intro hw
    rw [w_add mx' mu', w_add my' mv']
    exact add_has va vb hx hy hu hv hw
  · intro hw
    rw [w_sub mx' mu', w_sub my' mv']
    rw [ss] at hw ⊢
    have := add_has va vn (x := x) (y := y) (u := -u) (v := -v) hx hy (by simp only; omega) (by simp only; omega) hw
    rw [← Int.sub_eq_add_neg, ← Int.sub_eq_add_neg] at this
    exact this
  · rw [neg_sm mx', neg_sm my']
    refine ⟨rfl, ?_, ?_, ?_, ?_⟩ <;> (simp only; omega)
  · intro hw
    rcases mm with e | h
    · rw [e] at hw; exact absurd hw (by decide)
    · obtain ⟨m1, m2, m3, m4⟩ := mul_has va vb h hx hy hu hv
      obtain ⟨t1, t2, t3, t4⟩ := h.vb.sm
      exact holds_int _ _ _ (prod_small x u y v true mx' mu' my' mv') t1 t2 m1 m2
  · intro hw
    rcases mm with e | h
    · rw [e] at hw; exact absurd hw (by decide)
    · obtain ⟨m1, m2, m3, m4⟩ := mul_has va vb h hx hy hu hv
      obtain ⟨t1, t2, t3, t4⟩ := h.vb.sm
      exact holds_int _ _ _ (prod_small x v y u false mx' mv' my' mu') t3 t4 m3 m4
end Ab
