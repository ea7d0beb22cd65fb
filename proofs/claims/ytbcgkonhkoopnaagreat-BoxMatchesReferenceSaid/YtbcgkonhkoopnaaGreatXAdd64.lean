import Derived.Test.YtbcgkonhkoopnaaGreatXFT
import Derived.Test.YtbcgkonhkoopnaaGreatXBase
import Derived.Test.YtbcgkonhkoopnaaGreatXStep
import Derived.Laws.Externs
open Go Go.Proofs Go.RowKit
namespace Ab
set_option maxRecDepth 1000000
theorem add64_spec (gl : List (Nat × AV)) (x y c : Int) (hx : 0 <= x) (hy : 0 <= y) (h0 : 0 <= c) (h1 : c <= 1) :
  Spec Tryz.prog gl 133 [.int .u64 x, .int .u64 y, .int .u64 c] (.tup [.int .u64 ((x + y + c) % 18446744073709551616), .int .u64 ((x + y + c) / 18446744073709551616)]) := by
 intro w F vals hF hg hv
 refine .inr ⟨.tuple #[.int .u64 ((x + y + c) % 18446744073709551616), .int .u64 ((x + y + c) / 18446744073709551616)], w, ?_, ?_⟩
 ·unfold RepDL at hv
  obtain ⟨v1, vs1, rfl, e1, hv⟩ := hv
  unfold RepDL at hv
  obtain ⟨v2, vs2, rfl, e2, hv⟩ := hv
  unfold RepDL at hv
  obtain ⟨v3, vs3, rfl, e3, hv⟩ := hv
  unfold RepDL at hv
  unfold RepD at e1 e2 e3
  subst hv e1 e2 e3
  rw [run_callFunc_extern Tryz.func133 (by kernel_rfl) (by kernel_rfl) (by kernel_rfl) (e := add64Entry) (by kernel_rfl), run_add64 x y c hx hy h0 h1]
  rfl
 ·refine ⟨_, rfl, ?_, Below.refl _ _⟩
  unfold RepD
  refine ⟨_, rfl, ?_⟩
  unfold RepDL
  refine ⟨_, _, rfl, by unfold RepD; rfl, ?_⟩
  unfold RepDL
  refine ⟨_, _, rfl, by unfold RepD; rfl, ?_⟩
  unfold RepDL
  rfl
def base1 : FuncId -> List AV -> Option AV := fun f ds => match Nat.beq f 133 with
 | true => match ds with
  | [.int .u64 x, .int .u64 y, .int .u64 c] => guardB (and (and (dec (0 <= x)) (dec (0 <= y))) (and (dec (0 <= c)) (dec (c <= 1)))) (some (.tup [.int .u64 ((x + y + c) % 18446744073709551616), .int .u64 ((x + y + c) / 18446744073709551616)]))
  | _ => none
 | false => none
theorem base1_ok (f : FuncId) (ds : List AV) (r : AV) (h : base1 f ds = some r) : Spec Tryz.prog [] f ds r := by
 unfold base1 at h
 cases hf : Nat.beq f 133 with
 | false => rw [hf] at h; cases h
 | true =>
  rw [hf] at h
  have := Nat.eq_of_beq_eq_true hf
  subst this
  simp only at h
  split at h
  ·rename_i x y c
   obtain ⟨h1, h2⟩ := guardB_some h
   simp only [Bool.and_eq_true] at h1
   cases h2
   exact add64_spec [] x y c (dec_ok h1.1.1) (dec_ok h1.1.2) (dec_ok h1.2.1) (dec_ok h1.2.2)
  ·cases h
end Ab
