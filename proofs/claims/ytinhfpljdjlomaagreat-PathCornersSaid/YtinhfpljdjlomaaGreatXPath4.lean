import Derived.Test.YtinhfpljdjlomaaGreatXPath3
/-!
Copies of numbers; path.Reverse.
-/
open Go Go.Proofs
namespace Ab
set_option maxRecDepth 100000
set_option maxHeartbeats 1000000

theorem ownInt_spec (neg : Bool) (l : List Int) (hl : l.length ≤ 1073741824) : Spec Tryz.prog [] 108 [mkI neg l] (mkI neg l) := by
  have ll : ((irows .u32 l).length : Int) = l.length := by rw [irows_len]
  refine spec_fn T_ok mixed_ok 0 Tryz.func108 fn_ok108 (by kernel_rfl) ?_
  refine And.intro (show (0 : Int) ≤ ((irows .u32 l).length : Int) by omega) (And.intro (Int.le_refl _) (And.intro (show ((irows .u32 l).length : Int) * 4 ≤ 140737488355328 by omega) (And.intro (show ((irows .u32 l).length : Int) ≤ maxLen by simp only [maxLen]; omega) ?_)))
  refine And.intro (irows_ok _ _) ?_
  have e : ((irows .u32 l).length : Int).toNat = (irows .u32 l).length := by omega
  refine And.intro (show 0 + ((irows .u32 l).length : Int).toNat ≤ (List.replicate ((irows .u32 l).length : Int).toNat [AV.int .u32 0]).length by rw [List.length_replicate]; omega) ?_
  refine And.intro (Or.inr rfl) ?_
  refine And.intro ?_ ?_
  · simp
  · refine congrArg (fun x => AV.agg [AV.bool neg, AV.sl x]) (?_ : _ = irows .u32 l)
    simp
theorem own_spec {r : List AV} (h : Qok r) : Spec Tryz.prog [] 76 [.agg r] (.agg r) := by
  obtain ⟨n, d, rfl, fn, fd, _⟩ := h
  have s1 := ownInt_spec (decide (n < 0)) (Dg.mag (az n)) (Nat.le_trans fn (by decide))
  have s2 := ownInt_spec (decide (d < 0)) (Dg.mag (az d)) (Nat.le_trans fd (by decide))
  refine spec_fn T_ok mixed_ok 0 Tryz.func76 fn_ok76 (by kernel_rfl) ?_
  refine And.intro (by kernel_rfl) ?_
  repeat (first | refine gT ?_ | refine gF ?_ | refine brT ?_ | refine brF ?_ | refine And.intro rfl ?_)
  first | refine Exists.intro _ (And.intro (s1) ?_) | refine Hn_by (Exists.intro _ (And.intro (s1) ?_))
  repeat (first | refine gT ?_ | refine gF ?_ | refine brT ?_ | refine brF ?_ | refine And.intro rfl ?_)
  first | refine Exists.intro _ (And.intro (s2) ?_) | refine Hn_by (Exists.intro _ (And.intro (s2) ?_))
  repeat (first | refine gT ?_ | refine gF ?_ | refine brT ?_ | refine brF ?_ | refine And.intro rfl ?_)
  exact And.intro (Or.inr rfl) rfl
def zr : List AV := [.bool false, .sl [], .bool false, .sl []]
theorem fill_set {p : Ps} {i : Nat} {x : List AV} (h : p[i]? = some x) : (p.take i ++ List.replicate (p.length - i) zr).set i x = p.take (i + 1) ++ List.replicate (p.length - (i + 1)) zr := by
  have g := (List.getElem?_eq_some_iff.1 h).1
  have e : (p.take i).length = i := by rw [List.length_take]; omega
  rw [List.set_append_right _ _ (by omega), e, Nat.sub_self, show p.length - i = (p.length - (i + 1)) + 1 by omega, List.replicate_succ, List.set_cons_zero, List.take_add_one, h]
  simp
theorem fill_at {p : Ps} {i : Nat} (g : i < p.length) : (p.take i ++ List.replicate (p.length - i) zr)[i]? = some zr := by
  have e : (p.take i).length = i := by rw [List.length_take]; omega
  rw [List.getElem?_append_right (by omega), e, Nat.sub_self, show p.length - i = (p.length - (i + 1)) + 1 by omega]
  rfl
theorem ownAll_spec {p : Ps} (h : Okp p) (hl : p.length ≤ 1073741824) : Spec Tryz.prog [] 48 [.sl p] (.sl p) := by
  refine spec_fn T_ok mixed_ok 0 Tryz.func48 fn_ok48 (by kernel_rfl) ?_
  refine And.intro (show (0 : Int) ≤ (p.length : Int) by omega) (And.intro (Int.le_refl _) (And.intro (show (p.length : Int) * 64 ≤ 140737488355328 by omega) (And.intro (show (p.length : Int) ≤ maxLen by simp only [maxLen]; omega) ?_)))
  refine aw_loop (fun i : Nat => stOf [(0, .sl p), (3, .ms 0 0 p.length), (9, .int .i64 (p.length : Int)), (10, .int .i64 (i : Int))] [(0, .arr (67, 4) (p.take i ++ List.replicate (p.length - i) zr) true)] 1) (fun i => i ≤ p.length) (fun i => p.length - i) 0 (Nat.zero_le _)
    (le_by ⟨rfl, rfl, rfl, rfl, trivial⟩ ⟨rfl, trivial⟩ (Nat.le_refl _)) ?_
  intro i hi P hP
  refine br (fun g => ?_) (fun g => ?_)
  · have g : i < p.length := by have : (i : Int) < (p.length : Int) := g; omega
    obtain ⟨r, hr⟩ := get_of g
    have hq := h r (List.mem_of_getElem? hr)
    have s := own_spec hq
    obtain ⟨n, d, rfl, _⟩ := hq
    refine And.intro (Int.natCast_nonneg i) (Exists.intro _ (And.intro (nat_at hr) ?_))
    first | refine Exists.intro _ (And.intro (s) ?_) | refine Hn_by (Exists.intro _ (And.intro (s) ?_))
    refine And.intro (Int.natCast_nonneg i) (And.intro (show (i : Int) < (p.length : Int) by omega) ?_)
    refine Exists.intro zr (And.intro (show (p.take i ++ List.replicate (p.length - i) zr)[0 + (i : Int).toNat]? = some zr by rw [Nat.zero_add, Int.toNat_natCast]; exact fill_at g) ?_)
    refine hP (i + 1) _ ?_ g (by omega)
    refine le_by ⟨rfl, rfl, rfl, int_eq ?_, trivial⟩ ⟨?_, trivial⟩ (Nat.le_refl _)
    · exact w64_succ g (by omega)
    · show some (Blk.arr (67, 4) ((p.take i ++ List.replicate (p.length - i) zr).set (0 + (i : Int).toNat) (qr n d)) true) = _
      rw [Nat.zero_add, Int.toNat_natCast, fill_set hr]
  · have g : ¬ i < p.length := by have : ¬ (i : Int) < (p.length : Int) := g; omega
    have e : i = p.length := by omega
    subst e
    refine And.intro (Or.inr rfl) ?_
    refine And.intro (by simp) (congrArg AV.sl ?_)
    simp
end Ab
