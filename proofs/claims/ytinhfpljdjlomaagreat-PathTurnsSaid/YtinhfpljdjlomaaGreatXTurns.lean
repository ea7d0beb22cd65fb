import Derived.Test.YtinhfpljdjlomaaGreatXTurnsQ
import Derived.Test.YtinhfpljdjlomaaGreatXWorks
import Derived.Test.YtinhfpljdjlomaaGreatXShapePc
open Go Go.Proofs
namespace Ab
set_option maxRecDepth 100000
set_option maxHeartbeats 1000000
def shB : List AV -> Bool
 | [.bool _, .sl a, .bool _, .sl b] => and (decide ((a.length : Int) <= 20)) (decide ((b.length : Int) <= 20))
 | _ => false
theorem short1_spec {r : List AV} (h : QD r) : Spec Tryz.prog [] 42 [.agg r, .int .i64 20] (.bool (shB r)) := by
 obtain ⟨nn, nl, dn, dl, rfl, _, _⟩ := h
 show Spec Tryz.prog [] 42 [mkQ nn nl dn dl, .int .i64 20] (.bool (and (decide (((irows .u32 nl).length : Int) <= 20)) (decide (((irows .u32 dl).length : Int) <= 20))))
 refine spec_fn T_ok mixed_ok 0 Tryz.func42 fn_ok42 (by kernel_rfl) ?_
 refine br (fun h => ?_) (fun h => ?_)
 ·rw [decide_eq_true (show ((irows .u32 nl).length : Int) <= 20 from h)]
  repeat (first | refine gT ?_ | refine gF ?_ | refine brT ?_ | refine brF ?_)
  exact And.intro (Or.inr rfl) rfl
 ·rw [decide_eq_false (show ¬ ((irows .u32 nl).length : Int) <= 20 from h)]
  repeat (first | refine gT ?_ | refine gF ?_ | refine brT ?_ | refine brF ?_)
  exact And.intro (Or.inr rfl) rfl
theorem lshort_spec {p : Ps} (h : QDs p) (hl : (p.length : Int) <= 9223372036854775807) : Spec Tryz.prog [] 16 [.sl p] (.bool (p.all shB)) := by
 refine spec_fn T_ok mixed_ok 0 Tryz.func16 fn_ok16 (by kernel_rfl) ?_
 refine aw_loop (fun i : Nat => stOf [(0, .sl p), (3, .int .i64 (i : Int))] [] 0) (fun i => i <= p.length ∧ (p.take i).all shB = true) (fun i => p.length - i) 0 ⟨Nat.zero_le _, rfl⟩
  (le_by ⟨rfl, rfl, trivial⟩ trivial (Nat.le_refl _)) ?_
 rintro i ⟨hi, hall⟩ P hP
 refine br (fun g => ?_) (fun g => ?_)
 ·have g : i < p.length := by have : (i : Int) < (p.length : Int) := g; omega
  obtain ⟨r, hr⟩ := get_of g
  have v := short1_spec (h _ (List.mem_of_getElem? hr))
  obtain ⟨nn, nl, dn, dl, rfl, _, _⟩ := h r (List.mem_of_getElem? hr)
  refine And.intro (Int.natCast_nonneg i) (Exists.intro _ (And.intro (at_nat hr) ?_))
  cases hb : shB [.bool nn, lim nl, .bool dn, lim dl] with
  | true =>
   rw [hb] at v
   first | refine Exists.intro _ (And.intro (v) ?_) | refine Hn_by (Exists.intro _ (And.intro (v) ?_))
   repeat (first | refine gT ?_ | refine gF ?_ | refine brT ?_ | refine brF ?_)
   refine hP (i + 1) _ ?_ ⟨g, by rw [all_succ hr, hall, hb]; rfl⟩ (by omega)
   refine le_by ⟨rfl, int_eq ?_, trivial⟩ trivial (Nat.le_refl _)
   exact w64_succ g hl
  | false =>
   rw [hb] at v
   first | refine Exists.intro _ (And.intro (v) ?_) | refine Hn_by (Exists.intro _ (And.intro (v) ?_))
   repeat (first | refine gT ?_ | refine gF ?_ | refine brT ?_ | refine brF ?_)
   rw [all_false hr hb]
   exact And.intro (Or.inr rfl) rfl
 ·have g : ¬ i < p.length := by have : ¬ (i : Int) < (p.length : Int) := g; omega
  have e : i = p.length := by omega
  subst e
  rw [List.take_length] at hall
  rw [hall]
  exact And.intro (Or.inr rfl) rfl
theorem boxes_refl (L : List Bx) (hl : (L.length : Int) <= 9223372036854775807) : Spec Tryz.prog [] 18 [.sl (brow L), .sl (brow L)] (.bool true) := by
 have ll : ((brow L).length : Int) = L.length := by rw [brow_len]
 refine spec_fn T_ok mixed_ok 0 Tryz.func18 fn_ok18 (by kernel_rfl) ?_
 refine brN (fun g => absurd rfl g) (fun _ => ?_)
 refine aw_loop (fun i : Nat => stOf [(0, .sl (brow L)), (1, .sl (brow L)), (5, .int .i64 (i : Int))] [] 0) (fun i => i <= L.length) (fun i => L.length - i) 0 (Nat.zero_le _)
  (le_by ⟨rfl, rfl, rfl, trivial⟩ trivial (Nat.le_refl _)) ?_
 rintro i hi P hP
 refine br (fun g => ?_) (fun g => ?_)
 ·have g : i < L.length := by have : (i : Int) < ((brow L).length : Int) := g; omega
  obtain ⟨B, hB⟩ := get_of g
  have hb : (brow L)[i]? = some B.cs := by simp [brow, hB]
  refine And.intro (by kernel_rfl) ?_
  refine And.intro (Int.natCast_nonneg i) (Exists.intro _ (And.intro (at_nat hb) ?_))
  refine And.intro (Int.natCast_nonneg i) (Exists.intro _ (And.intro (at_nat hb) ?_))
  have e : (!(and (B.a == B.a) (and (B.b == B.b) (and (B.c == B.c) (and (B.d == B.d) (and (B.w == B.w) true)))))) = false := by simp
  refine And.intro (fun h => Bool.noConfusion (e.symm.trans h)) (fun _ => ?_)
  refine hP (i + 1) _ ?_ g (by omega)
  refine le_by ⟨rfl, rfl, int_eq ?_, trivial⟩ trivial (Nat.le_refl _)
  exact w64_succ g hl
 ·exact And.intro (Or.inr rfl) rfl
theorem at_form {l m : Ps} {re im : Int} {r : AV} (h : AtAns l m re im r) : ∃ L e, r = .tup [.sl (brow L), .int .i64 e] ∧ L.length <= 20 := by
 rcases h with ⟨_, rfl⟩ | ⟨a, b, _, _, _, _, h5, h6, _, rfl⟩
 ·exact ⟨[], 1, rfl, Nat.zero_le _⟩
 ·cases ha : atO a b re im with
  | none => exact ⟨[], 2, rfl, Nat.zero_le _⟩
  | some L => exact ⟨L, 0, rfl, by have := atO_len h6.symm ha; omega⟩
theorem sh_sz {x : Int × Int} (h : shB (qc x) = true) : Sz x 20 20 := by
 have k : ∀ z : Int, (Dg.mag (az z)).length <= 20 -> az z < Dg.B ^ 20 := fun z hz => by
  have a := Dg.val_lt (Dg.magD (az z))
  rw [Dg.magV (az_nn z)] at a
  exact Int.lt_of_lt_of_le a (pow_le_pow hz)
 unfold shB at h
 simp only [irows_len, Bool.and_eq_true, decide_eq_true_eq] at h
 exact ⟨k _ (by omega), k _ (by omega)⟩
theorem sh_all {a : List (Int × Int)} (h : (qrow a).all shB = true) : ∀ x ∈ a, Sz x 20 20 := fun x hx => sh_sz (List.all_eq_true.1 h (qc x) (List.mem_map.2 ⟨x, hx, rfl⟩))
theorem qrow_inj {a b : List (Int × Int)} (h : qrow a = qrow b) : a = b := by
 unfold qrow at h
 refine (List.map_inj_right fun x y e => ?_).1 h
 obtain ⟨h1, h2⟩ := qr_inj e
 exact Prod.ext h1 h2
theorem turn_same {l m : Ps} {re im : Int} {r s : AV} (ht : timeB re im = true) (ht2 : timeB (4096 - re) (-im) = true) (sl : l.all shB = true) (sm : m.all shB = true) (h1 : AtAns l m re im r) (h2 : AtAns m l (4096 - re) (-im) s) : r = s := by
 have sym : headB l m re im = headB m l (4096 - re) (-im) := by
  apply Bool.eq_iff_iff.2
  rw [headB_iff, headB_iff]
  constructor
  ·rintro ⟨a, b, ⟨c, d⟩, _⟩; exact ⟨by omega, c, ⟨b, d.symm⟩, ht2⟩
  ·rintro ⟨a, b, ⟨c, d⟩, _⟩; exact ⟨by omega, c, ⟨b, d.symm⟩, ht⟩
 have good : ∀ {l m : Ps} {re im : Int} {a b : List (Int × Int)}, l = qrow a -> m = qrow b -> Qvs a -> Qvs b -> a.length <= 20 -> b.length = a.length -> timeB re im = true -> headB l m re im = true := by
  intro l m re im a b e1 e2 ha hb h3 h4 h5
  subst e1 e2
  exact headB_iff.2 ⟨by rw [qrow_len]; exact h3, qrow_ok ha, ⟨qrow_ok hb, by rw [qrow_len, qrow_len]; exact h4⟩, h5⟩
 rcases h1 with ⟨e1, rfl⟩ | ⟨a, b, rfl, rfl, ha, hb, h3, h4, h5, rfl⟩
 ·rcases h2 with ⟨_, rfl⟩ | ⟨a, b, rfl, rfl, ha, hb, h3, h4, h5, rfl⟩
  ·rfl
  ·rw [sym, good rfl rfl ha hb h3 h4 h5] at e1; cases e1
 ·rcases h2 with ⟨e2, rfl⟩ | ⟨c, d, e3, e4, hc, hd, h3', h4', h5', rfl⟩
  ·rw [<- sym, good rfl rfl ha hb h3 h4 h5] at e2; cases e2
  ·have := qrow_inj e3
   have := qrow_inj e4
   subst_vars
   obtain ⟨⟨t1, t2⟩, t3, t4⟩ := timeB_iff.1 ht
   obtain ⟨⟨u1, u2⟩, u3, u4⟩ := timeB_iff.1 ht2
   rw [atO_turn t1 t2 t3 t4 u1 u2 h4.symm ha hb (sh_all sl) (sh_all sm)]
abbrev pcv (l m : Ps) (a b c d : Int) : AV := .agg [.sl l, .sl m, .int .i64 a, .int .i64 b, .int .i64 c, .int .i64 d]
theorem turns_law {l m : Ps} {a b c d : Int} (hl : QDs l) (hm : QDs m) (ll : (l.length : Int) <= 9223372036854775807) (lm : (m.length : Int) <= 9223372036854775807) : Spec Tryz.prog [] 4 [pcv l m a b c d] (.bool true) := by
 have t1 := time_spec a b
 have t2 := time_spec (w64 (4096 - a)) (w64 (0 - b))
 have s1 := lshort_spec hl ll
 have s2 := lshort_spec hm lm
 cases e1 : timeB a b with
 | false =>
  rw [e1] at t1
  refine spec_fn T_ok mixed_ok 0 Tryz.func4 fn_ok4 (by kernel_rfl) ?_
  first | refine Exists.intro _ (And.intro (t1) ?_) | refine Hn_by (Exists.intro _ (And.intro (t1) ?_))
  repeat (first | refine gT ?_ | refine gF ?_ | refine brT ?_ | refine brF ?_)
  first | refine Exists.intro _ (And.intro (works_spec) ?_) | refine Hn_by (Exists.intro _ (And.intro (works_spec) ?_))
  exact And.intro (Or.inr rfl) rfl
 | true =>
 cases e2 : timeB (w64 (4096 - a)) (w64 (0 - b)) with
 | false =>
  rw [e1] at t1
  rw [e2] at t2
  refine spec_fn T_ok mixed_ok 0 Tryz.func4 fn_ok4 (by kernel_rfl) ?_
  first | refine Exists.intro _ (And.intro (t1) ?_) | refine Hn_by (Exists.intro _ (And.intro (t1) ?_))
  repeat (first | refine gT ?_ | refine gF ?_ | refine brT ?_ | refine brF ?_)
  first | refine Exists.intro _ (And.intro (t2) ?_) | refine Hn_by (Exists.intro _ (And.intro (t2) ?_))
  repeat (first | refine gT ?_ | refine gF ?_ | refine brT ?_ | refine brF ?_)
  first | refine Exists.intro _ (And.intro (works_spec) ?_) | refine Hn_by (Exists.intro _ (And.intro (works_spec) ?_))
  exact And.intro (Or.inr rfl) rfl
 | true =>
 cases e3 : l.all shB with
 | false =>
  rw [e1] at t1
  rw [e2] at t2
  rw [e3] at s1
  refine spec_fn T_ok mixed_ok 0 Tryz.func4 fn_ok4 (by kernel_rfl) ?_
  first | refine Exists.intro _ (And.intro (t1) ?_) | refine Hn_by (Exists.intro _ (And.intro (t1) ?_))
  repeat (first | refine gT ?_ | refine gF ?_ | refine brT ?_ | refine brF ?_)
  first | refine Exists.intro _ (And.intro (t2) ?_) | refine Hn_by (Exists.intro _ (And.intro (t2) ?_))
  repeat (first | refine gT ?_ | refine gF ?_ | refine brT ?_ | refine brF ?_)
  first | refine Exists.intro _ (And.intro (s1) ?_) | refine Hn_by (Exists.intro _ (And.intro (s1) ?_))
  repeat (first | refine gT ?_ | refine gF ?_ | refine brT ?_ | refine brF ?_)
  first | refine Exists.intro _ (And.intro (works_spec) ?_) | refine Hn_by (Exists.intro _ (And.intro (works_spec) ?_))
  exact And.intro (Or.inr rfl) rfl
 | true =>
 cases e4 : m.all shB with
 | false =>
  rw [e1] at t1
  rw [e2] at t2
  rw [e3] at s1
  rw [e4] at s2
  refine spec_fn T_ok mixed_ok 0 Tryz.func4 fn_ok4 (by kernel_rfl) ?_
  first | refine Exists.intro _ (And.intro (t1) ?_) | refine Hn_by (Exists.intro _ (And.intro (t1) ?_))
  repeat (first | refine gT ?_ | refine gF ?_ | refine brT ?_ | refine brF ?_)
  first | refine Exists.intro _ (And.intro (t2) ?_) | refine Hn_by (Exists.intro _ (And.intro (t2) ?_))
  repeat (first | refine gT ?_ | refine gF ?_ | refine brT ?_ | refine brF ?_)
  first | refine Exists.intro _ (And.intro (s1) ?_) | refine Hn_by (Exists.intro _ (And.intro (s1) ?_))
  repeat (first | refine gT ?_ | refine gF ?_ | refine brT ?_ | refine brF ?_)
  first | refine Exists.intro _ (And.intro (s2) ?_) | refine Hn_by (Exists.intro _ (And.intro (s2) ?_))
  repeat (first | refine gT ?_ | refine gF ?_ | refine brT ?_ | refine brF ?_)
  first | refine Exists.intro _ (And.intro (works_spec) ?_) | refine Hn_by (Exists.intro _ (And.intro (works_spec) ?_))
  exact And.intro (Or.inr rfl) rfl
 | true =>
  obtain ⟨⟨g1, g2⟩, g3, g4⟩ := timeB_iff.1 e1
  have w1 : w64 (4096 - a) = 4096 - a := w64_eq (by omega)
  have w2 : w64 (0 - b) = -b := by rw [w64_eq (by omega)]; omega
  rw [w1, w2] at e2
  obtain ⟨r1, q1, x1, _⟩ := at_any hl hm lm (re := a) (im := b)
  obtain ⟨r2, q2, x2, _⟩ := at_any hm hl ll (re := 4096 - a) (im := -b)
  have e5 := turn_same e1 e2 e3 e4 q1 q2
  subst e5
  obtain ⟨L, e, rfl, hL⟩ := at_form q1
  have bx := boxes_refl L (by omega)
  rw [e1] at t1
  rw [w1, w2, e2] at t2
  rw [e3] at s1
  rw [e4] at s2
  rw [<- w1, <- w2] at t2 x2
  refine spec_fn T_ok mixed_ok 0 Tryz.func4 fn_ok4 (by kernel_rfl) ?_
  first | refine Exists.intro _ (And.intro (t1) ?_) | refine Hn_by (Exists.intro _ (And.intro (t1) ?_))
  repeat (first | refine gT ?_ | refine gF ?_ | refine brT ?_ | refine brF ?_)
  first | refine Exists.intro _ (And.intro (t2) ?_) | refine Hn_by (Exists.intro _ (And.intro (t2) ?_))
  repeat (first | refine gT ?_ | refine gF ?_ | refine brT ?_ | refine brF ?_)
  first | refine Exists.intro _ (And.intro (s1) ?_) | refine Hn_by (Exists.intro _ (And.intro (s1) ?_))
  repeat (first | refine gT ?_ | refine gF ?_ | refine brT ?_ | refine brF ?_)
  first | refine Exists.intro _ (And.intro (s2) ?_) | refine Hn_by (Exists.intro _ (And.intro (s2) ?_))
  repeat (first | refine gT ?_ | refine gF ?_ | refine brT ?_ | refine brF ?_)
  first | refine Exists.intro _ (And.intro (x1) ?_) | refine Hn_by (Exists.intro _ (And.intro (x1) ?_))
  first | refine Exists.intro _ (And.intro (x2) ?_) | refine Hn_by (Exists.intro _ (And.intro (x2) ?_))
  first | refine Exists.intro _ (And.intro (works_spec) ?_) | refine Hn_by (Exists.intro _ (And.intro (works_spec) ?_))
  repeat (first | refine gT ?_ | refine gF ?_ | refine brT ?_ | refine brF ?_)
  refine brE (fun _ => ?_) (fun g => absurd rfl g)
  repeat (first | refine gT ?_ | refine gF ?_ | refine brT ?_ | refine brF ?_)
  first | refine Exists.intro _ (And.intro (bx) ?_) | refine Hn_by (Exists.intro _ (And.intro (bx) ?_))
  exact And.intro (Or.inr rfl) rfl
end Ab
