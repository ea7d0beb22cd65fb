import Derived.Test.YtpjjbhhoagocjaaGreatDoorXCompose
import Derived.Test.YtpjjbhhoagocjaaGreatDoorXDerive
import Derived.Test.YtpjjbhhoagocjaaGreatDoorXDerP
import Derived.Test.YtpjjbhhoagocjaaGreatDoorXDivP
import Derived.Test.YtpjjbhhoagocjaaGreatDoorXSane03
open Go Go.Proofs
namespace Ab
set_option maxRecDepth 100000
set_option maxHeartbeats 1000000
theorem clip1_pb {N : Nat} {c : Rat} (h : Bd 1 N c) : PB 1 N 1 (clipP [c]) :=
 ⟨bdl_clip (bdl_of (by decide) fun i hi => by
  have e : i = 0:=by simp at hi; exact hi
  subst e; exact h),clip_lst _,clip_len [c]⟩
theorem cmp_pb {N M : Nat} {p q : List Rat} (hp : BdL 1 N p) (hq : PB 1 M 5 q) : ∀ t,t <= 5 -> PB 1 (N * (66 * M + 1) ^ t) (4 * t + 1) (cmp p q t)
 | 0,_ => pb_nil (by decide)
 | t + 1,ht => by
  have ih:=cmp_pb hp hq t (by omega)
  have h:=(ih.mul hq (by omega)).add (clip1_pb (hp (p.length - 1 - t)))
  refine ⟨fun i => (h.b i).mono ?_,h.t,Nat.le_trans h.l (by omega)⟩
  have e : N * (66 * M + 1) ^ (t + 1) = 66 * (N * (66 * M + 1) ^ t * M) + N * (66 * M + 1) ^ t:=by
   rw [Nat.pow_succ,Nat.mul_add,Nat.mul_add,Nat.mul_one]
   congr 1
   rw [<- Nat.mul_assoc,Nat.mul_comm N]
   grind
  rw [e]
  have : N <= N * (66 * M + 1) ^ t:=Nat.le_mul_of_pos_right _ (Nat.pow_pos (by omega))
  omega
theorem Compose_pb (gl : List (Nat × AV)) {N M : Nat} {p q : List Rat} (hp : PB 1 N 5 p) (hq : PB 1 M 5 q) (h1 : (N * (66 * M + 1) ^ 5 + 1) * (M + 1) <= SZ) (h2 : (66 * (N * (66 * M + 1) ^ 5 * M) + 1 * 1) * (N * (66 * M + 1) ^ 5 * M + 1 * 1) <= SZ) (h3 : (66 * (N * (66 * M + 1) ^ 5 * M) + 1 * 1) * (N + 1) <= SZ) : Spec Tryz.prog gl 37 [polyV p,polyV q] (.tup [polyV (cmp p q p.length),.int .i64 0]):=by
 have pl:=hp.l
 have ql:=hq.l
 obtain ⟨s1,s2,_⟩:=sz_all h1 (by decide) (by decide)
 obtain ⟨_,s3,_⟩:=sz_all h3 (by decide) (by decide)
 have mono : ∀ t,t <= 5 -> N * (66 * M + 1) ^ t <= N * (66 * M + 1) ^ 5:=fun t ht => Nat.mul_le_mul_left _ (Nat.pow_le_pow_right (by omega) ht)
 have hc : ∀ t,t <= 5 -> PB 1 (N * (66 * M + 1) ^ 5) (4 * t + 1) (cmp p q t):=fun t ht =>
  have h:=cmp_pb hp.b hq t ht
  ⟨fun i => (h.b i).mono (mono t ht),h.t,h.l⟩
 have hd : (p.length - 1) * (q.length - 1) <= 64:=Nat.le_trans (Nat.mul_le_mul (show p.length - 1 <= 4 by omega) (show q.length - 1 <= 4 by omega)) (by decide)
 refine Compose_spec gl (hp.poly s3 (by decide)) (hq.poly s2 (by decide)) hd ⟨fun t ht => ?_,fun t ht => ?_,fun t ht j => ?_⟩
 ·have:=((hc t (by omega)).mul hq (by omega)).l
  omega
 ·exact mul_any gl (hc t (by omega)).b hq.b (by have:=(hc t (by omega)).l; omega) h1 h2
 ·exact bd_fa (((hc t (by omega)).mul hq (by omega)).b j) ((clip1_pb (hp.b _)).b j) h3
end Ab
