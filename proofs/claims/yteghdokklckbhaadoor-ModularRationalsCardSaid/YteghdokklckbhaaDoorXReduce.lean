import Derived.Test.YteghdokklckbhaaDoorXPrime
/-!
The contract of modular.reduce.
-/
open Go Go.Proofs
namespace Ab
set_option maxRecDepth 100000

def redStep (p r x : Int) : Int := (w64 (tm r (Int.tmod 4294967296 p) p + (w64 x).tmod p)).tmod p
def redF (p : Int) (l : List Int) : Int := l.foldr (fun x r => redStep p r x) 0
def resF (n p : Int) : Int := (w64 (n.tmod p + p)).tmod p
def reduceF (neg : Bool) (l : List Int) (p : Int) : Int := if neg then resF (w64 (0 - redF p l)) p else redF p l

theorem reduce_spec (gl : List (Nat × AV)) (neg : Bool) (l : List Int) (p : Int) (hp : p ≠ 0) (hl : (l.length : Int) ≤ 9223372036854775807) :
    Spec Tryd.prog gl 38 [.agg [.bool neg, .sl (irows .u32 l)], .int .i64 p] (.int .i64 (reduceF neg l p)) := by
  refine spec_fn T_ok mixed_ok 2 Tryd.func38 fn_ok38 (by kernel_rfl) ?_
  refine Hn_in Tryd.f63 Tryd.func63 fn_ok63 (by kernel_rfl) ?_
  refine And.intro (Or.inr rfl) ?_
  refine Gn_in Tryd.f81 Tryd.func81 fn_ok81 (by kernel_rfl) fun y => ?_
  have hlen : ((irows .u32 l).length : Int) = l.length := by rw [irows_len]
  refine aw_loop (fun k : Nat => stOf [(0, .yl y), (1, .bp 3 0), (3, .int .i64 ((k : Int) - 1))] [(0, .box [.bool neg, .sl (irows .u32 l)]), (1, .box [.int .i64 p]), (2, .box [.int .i64 (redF p (l.drop k))]), (3, .box [.sl (irows .u32 l)])] 4)
    (fun k => k ≤ l.length) (fun k => k) l.length (Nat.le_refl _) (le_of ?_ ?_ ?_) ?_
  · intro q hq
    simp only [List.mem_cons, List.not_mem_nil, or_false] at hq
    rcases hq with rfl | rfl | rfl
    · rfl
    · rfl
    · show AV.int .i64 (w64 (((irows .u32 l).length : Int) - 1)) = _
      rw [hlen, w64, Go.IntWalk.i64_in _ (by omega)]
  · intro q hq
    simp only [List.mem_cons, List.not_mem_nil, or_false] at hq
    rcases hq with rfl | rfl | rfl | rfl
    · rfl
    · rfl
    · show some (Blk.box [AV.int .i64 0]) = _
      simp [redF]
    · rfl
  · exact Nat.le_refl _
  · rintro k hk P hP
    refine And.intro (fun h => ?_) (fun h => ?_)
    · have hk0 : (k : Int) - 1 ≥ 0 := of_decide_eq_true h
      obtain ⟨x, hx⟩ : ∃ x, l[k - 1]? = some x := ⟨l[k - 1]'(by omega), List.getElem?_eq_getElem (by omega)⟩
      refine And.intro hk0 (Exists.intro _ (And.intro (irows_at (x := x) (by rw [← hx]; congr 1; omega)) ?_))
      refine And.intro rfl ?_
      refine And.intro (by kernel_rfl) ?_
      refine And.intro hp ?_
      refine Exists.intro _ (And.intro (times_spec gl _ _ _ hp) ?_)
      refine And.intro rfl (And.intro hp (And.intro rfl (And.intro hp ?_)))
      refine And.intro (fun h => nomatch h) (fun _ => ?_)
      have hw : w64 ((k : Int) - 1 - 1) = ((k - 1 : Nat) : Int) - 1 := by rw [w64, Go.IntWalk.i64_in _ (by omega)]; omega
      have hd : redF p (l.drop (k - 1)) = redStep p (redF p (l.drop k)) x := by
        have : l.drop (k - 1) = x :: l.drop k := by
          rw [List.drop_eq_getElem_cons (by omega), show k - 1 + 1 = k by omega]
          congr 1
          rw [List.getElem?_eq_getElem (by omega)] at hx
          exact Option.some.inj hx
        rw [this]; rfl
      refine hP (k - 1) _ (le_of ?_ ?_ ?_) (by omega) (by omega)
      · intro q hq
        simp only [List.mem_cons, List.not_mem_nil, or_false] at hq
        rcases hq with rfl | rfl | rfl
        · rfl
        · rfl
        · show AV.int .i64 (w64 ((k : Int) - 1 - 1)) = _
          rw [hw]
      · intro q hq
        simp only [List.mem_cons, List.not_mem_nil, or_false] at hq
        rcases hq with rfl | rfl | rfl | rfl
        · rfl
        · rfl
        · show _ = some (Blk.box [AV.int .i64 (redF p (l.drop (k - 1)))])
          rw [hd]; rfl
        · rfl
      · exact Nat.le_refl _
    · have hk0 : k = 0 := by
        have : ¬ (k : Int) - 1 ≥ 0 := of_decide_eq_false h
        omega
      subst hk0
      refine And.intro (Or.inl rfl) ?_
      clear hP
      cases neg with
      | true =>
        refine And.intro (fun _ => ?_) (fun h => nomatch h)
        refine Hn_by (Exists.intro _ (And.intro (residue_spec gl _ _ hp) ?_))
        exact And.intro (Or.inr rfl) rfl
      | false =>
        refine And.intro (fun h => nomatch h) (fun _ => ?_)
        exact And.intro (Or.inr rfl) rfl
end Ab
