import Derived.Test.YtinhfpljdjlomaaGreatXTurnsP
open Go Go.Proofs
namespace Ab
set_option maxHeartbeats 1000000
theorem val_mul {a b z : Int × Int} {A B α β : Int} (ha : 0 < a.2) (hb : 0 < b.2) (h1 : a.1 * A = α * a.2) (h2 : b.1 * B = β * b.2) (h : z.1 * (a.2 * b.2) = a.1 * b.1 * z.2) : z.1 * (A * B) = α * β * z.2 := by
 have p := Int.mul_pos ha hb
 refine Int.eq_of_mul_eq_mul_right (a := a.2 * b.2) (by omega) ?_
 calc z.1 * (A * B) * (a.2 * b.2) = z.1 * (a.2 * b.2) * (A * B) := by grind
  _ = a.1 * b.1 * z.2 * (A * B) := by rw [h]
  _ = (a.1 * A) * (b.1 * B) * z.2 := by grind
  _ = (α * a.2) * (β * b.2) * z.2 := by rw [h1, h2]
  _ = α * β * z.2 * (a.2 * b.2) := by grind
theorem val_add {a b z : Int × Int} {B β : Int} (_ha : 0 < a.2) (hb : 0 < b.2) (h2 : b.1 * B = β * b.2) (h : z.1 * (a.2 * b.2) = (a.1 * b.2 + b.1 * a.2) * z.2) : z.1 * (a.2 * B) = (a.1 * B + β * a.2) * z.2 := by
 refine Int.eq_of_mul_eq_mul_right (a := b.2) (by omega) ?_
 calc z.1 * (a.2 * B) * b.2 = z.1 * (a.2 * b.2) * B := by grind
  _ = (a.1 * b.2 + b.1 * a.2) * z.2 * B := by rw [h]
  _ = (a.1 * B * b.2 + (b.1 * B) * a.2) * z.2 := by grind
  _ = (a.1 * B * b.2 + (β * b.2) * a.2) * z.2 := by rw [h2]
  _ = (a.1 * B + β * a.2) * z.2 * b.2 := by grind
theorem alg1 (a b c d e q : Int) : (a * (d * b * 4096) + (c * b - a * d) * e * b) * q = (a * d * 4096 + (c * b - a * d) * e) * q * b := by grind
theorem alg2 (q b d : Int) : q * (b * d * 4096) * b = q * (b * (d * b * 4096)) := by grind
theorem alg3 (b d : Int) : b * d * 4096 = d * b * 4096 := by grind
theorem alg4 (a b c d e : Int) : c * b * 4096 + (a * d - c * b) * (4096 - e) = a * d * 4096 + (c * b - a * d) * e := by grind
theorem alg5 (a b c d e : Int) : (a * d - c * b) * -e = (c * b - a * d) * e := by grind
theorem pt_vals {x y : Int × Int} (hx : Qv x) (hy : Qv y) (sx : Sz x 20 20) (sy : Sz y 20 20) {re im : Int} (r0 : -1048576 <= re) (r1 : re <= 1048576) (i0 : -1048576 <= im) (i1 : im <= 1048576) :
  ∃ q r, Qv q ∧ Qv r ∧ q.1 * (x.2 * y.2 * 4096) = (x.1 * y.2 * 4096 + (y.1 * x.2 - x.1 * y.2) * re) * q.2 ∧ r.1 * (x.2 * y.2 * 4096) = (y.1 * x.2 - x.1 * y.2) * im * r.2 ∧
   ptO x y re im = (oEx q).bind fun a => (oEx r).bind fun b => some ⟨a.a, a.b, b.a, b.b, false⟩ := by
 have k1 := tq_qv (z := re) (by omega) (by omega)
 have k2 := tq_qv (z := im) (by omega) (by omega)
 have z1 := tq_sz r0 r1
 have z2 := tq_sz i0 i1
 have v1 := tq_val re
 have v2 := tq_val im
 obtain ⟨d, e1, hd, sd, vd⟩ := oSub_ok hy hx sy sx 40 (by omega) (by omega) (by omega) (by omega)
 obtain ⟨p, e2, hp, sp, vp⟩ := oMul_ok hd k1 sd z1 (by omega) (by omega)
 obtain ⟨q, e3, hq, _, vq⟩ := oAdd_ok hx hp sx sp 62 (by omega) (by omega) (by omega) (by omega)
 obtain ⟨r, e4, hr, _, vr⟩ := oMul_ok hd k2 sd z2 (by omega) (by omega)
 refine ⟨q, r, hq, hr, ?_, ?_, ?_⟩
 ·have w1 := val_mul hd.2.2.1 k1.2.2.1 vd v1 vp
  have w2 := val_add hx.2.2.1 hp.2.2.1 w1 vq
  have X := hx.2.2.1
  refine Int.eq_of_mul_eq_mul_right (a := x.2) (by omega) ?_
  calc q.1 * (x.2 * y.2 * 4096) * x.2 = q.1 * (x.2 * (y.2 * x.2 * 4096)) := alg2 _ _ _
   _ = (x.1 * (y.2 * x.2 * 4096) + (y.1 * x.2 - x.1 * y.2) * re * x.2) * q.2 := w2
   _ = (x.1 * y.2 * 4096 + (y.1 * x.2 - x.1 * y.2) * re) * q.2 * x.2 := alg1 _ _ _ _ _ _
 ·have w1 := val_mul hd.2.2.1 k2.2.2.1 vd v2 vr
  rw [alg3]
  exact w1
 ·unfold ptO
  rw [e1, Option.bind_some, e2, Option.bind_some, e3, Option.bind_some, e4, Option.bind_some]
theorem pt_turn {x y : Int × Int} (hx : Qv x) (hy : Qv y) (sx : Sz x 20 20) (sy : Sz y 20 20) {re im : Int} (r0 : -1048576 <= re) (r1 : re <= 1048576) (i0 : -1048576 <= im) (i1 : im <= 1048576) (r2 : -1048576 <= 4096 - re) (r3 : 4096 - re <= 1048576) :
  ptO x y re im = ptO y x (4096 - re) (-im) := by
 obtain ⟨q, r, hq, hr, vq, vr, e⟩ := pt_vals hx hy sx sy r0 r1 i0 i1
 obtain ⟨q', r', hq', hr', vq', vr', e'⟩ := pt_vals hy hx sy sx r2 r3 (show -1048576 <= -im by omega) (by omega)
 have D := Int.mul_pos (Int.mul_pos hx.2.2.1 hy.2.2.1) (show (0 : Int) < 4096 by decide)
 rw [alg3 y.2 x.2] at vq' vr'
 rw [alg4] at vq'
 rw [alg5] at vr'
 have eq : q = q' := same_val hq hq' D vq vq'
 have er : r = r' := same_val hr hr' D vr vr'
 rw [e, e', eq, er]
theorem atO_turn {re im : Int} (r0 : -1048576 <= re) (r1 : re <= 1048576) (i0 : -1048576 <= im) (i1 : im <= 1048576) (r2 : -1048576 <= 4096 - re) (r3 : 4096 - re <= 1048576) :
  ∀ {a b : List (Int × Int)}, a.length = b.length -> Qvs a -> Qvs b -> (∀ x ∈ a, Sz x 20 20) -> (∀ x ∈ b, Sz x 20 20) -> atO a b re im = atO b a (4096 - re) (-im)
 | [], [], _, _, _, _, _ => rfl
 | x :: a, y :: b, hl, ha, hb, sa, sb => by
  have ih := atO_turn r0 r1 i0 i1 r2 r3 (a := a) (b := b) (by simpa using hl) (fun z hz => ha z (by simp [hz])) (fun z hz => hb z (by simp [hz])) (fun z hz => sa z (by simp [hz])) (fun z hz => sb z (by simp [hz]))
  unfold atO
  rw [ih, pt_turn (ha x (by simp)) (hb y (by simp)) (sa x (by simp)) (sb y (by simp)) r0 r1 i0 i1 r2 r3]
end Ab
