import Derived.Test.YtpjjbhhoagocjaaGreatDoorXGue
import Derived.Test.YtpjjbhhoagocjaaGreatDoorXGuf
import Derived.Test.YtpjjbhhoagocjaaGreatDoorXDivs
section
open Go Go.Proofs
namespace Ab
set_option maxRecDepth 100000
set_option maxHeartbeats 1000000
abbrev lf (a : Int) : Nat -> Rat:=cf (lin a)
theorem lf_out {a : Int} {i : Nat} (h : 2 <= i) : lf a i = 0:=cf_out (p:=lin a) h
theorem dif_lf (a : Int) : dif (lf a) = one0:=funext fun k => by
 unfold dif
 cases k with
 | zero =>
  show ((1 : Int) : Rat) * 1 = 1
  rw [Rat.mul_one]; rfl
 | succ k =>
  rw [lf_out (by omega),Rat.mul_zero]; rfl
theorem cnv4 (a b c d : Nat -> Rat) (k : Nat) : cnv (cnv a b) (cnv c d) k = cnv (cnv a c) (cnv b d) k:=by
 rw [<- cnv_assoc,<- cnv_assoc]
 refine cnv_congr (fun _ => rfl) fun i => ?_
 rw [cnv_assoc,cnv_assoc]
 exact cnv_congr (fun j => cnv_comm _ _ j) fun _ => rfl
def wL : List (Int × Nat) -> List Rat
 | [] => [1]
 | x :: D => mulP (wL D) (lin x.1)
def vF : List (Int × Nat) -> Nat -> Rat
 | [] => fun _ => 0
 | x :: D => fun k => cnv (vF D) (lf x.1) k + (((x.2 : Nat) : Int) : Rat) * cf (wL D) k
def powL (p : List Rat) (a : Int) : Nat -> List Rat
 | 0 => p
 | m + 1 => mulP (powL p a m) (lin a)
def gL (c : Rat) : List (Int × Nat) -> List Rat
 | [] => [c]
 | x :: D => powL (gL c D) x.1 (x.2 - 1)
def pF (c : Rat) : List (Int × Nat) -> Nat -> Rat
 | [] => cf [c]
 | x :: D => cnv (pF c D) (pw (lf x.1) x.2)
def inc (n : Int) : List (Int × Nat) -> List (Int × Nat)
 | [] => [(n,1)]
 | x :: D => if x.1 = n then (x.1,x.2 + 1) :: D else x :: inc n D
def tot : List (Int × Nat) -> Nat
 | [] => 0
 | x :: D => tot D + x.2
abbrev kys (D : List (Int × Nat)) : List Int:=D.map fun x => x.1
theorem pF_inc (c : Rat) (n : Int) : ∀ D k,pF c (inc n D) k = cnv (pF c D) (lf n) k
 | [],k => cnv_congr (fun _ => rfl) fun i => cnv_one (lf n) i
 | x :: D,k => by
  unfold inc
  by_cases e : x.1 = n
  ·rw [if_pos e,<- e]
   show cnv (pF c D) (cnv (pw (lf x.1) x.2) (lf x.1)) k = cnv (cnv (pF c D) (pw (lf x.1) x.2)) (lf x.1) k
   rw [cnv_assoc]
  ·rw [if_neg e]
   show cnv (pF c (inc n D)) (pw (lf x.1) x.2) k = cnv (cnv (pF c D) (pw (lf x.1) x.2)) (lf n) k
   rw [cnv_congr (pF_inc c n D) (fun _ => rfl),<- cnv_assoc,<- cnv_assoc]
   exact cnv_congr (fun _ => rfl) fun i => cnv_comm _ _ i
theorem inc_w (n : Int) : ∀ D,n ∈ kys D -> wL (inc n D) = wL D
 | [],h => by cases h
 | x :: D,h => by
  unfold inc
  by_cases e : x.1 = n
  ·rw [if_pos e]; rfl
  ·rw [if_neg e]
   show mulP (wL (inc n D)) (lin x.1) = _
   rw [inc_w n D (by
    rcases List.mem_cons.1 h with h | h
    ·exact absurd h.symm e
    ·exact h)]
   rfl
theorem inc_w2 (n : Int) : ∀ D,n ∉ kys D -> ∀ k,cf (wL (inc n D)) k = cnv (cf (wL D)) (lf n) k
 | [],_,k => cf_mulP _ _ k
 | x :: D,h,k => by
  unfold inc
  have e : ¬ x.1 = n:=fun e => h (List.mem_cons.2 (.inl e.symm))
  rw [if_neg e]
  show cf (mulP (wL (inc n D)) (lin x.1)) k = cnv (cf (mulP (wL D) (lin x.1))) (lf n) k
  rw [cf_mulP,cnv_congr (inc_w2 n D fun h2 => h (List.mem_cons.2 (.inr h2))) (fun _ => rfl),cnv_congr (fun i => cf_mulP (wL D) (lin x.1) i) (fun _ => rfl),<- cnv_assoc,<- cnv_assoc]
  exact cnv_congr (fun _ => rfl) fun i => cnv_comm _ _ i
theorem inc_k (n : Int) : ∀ D,kys (inc n D) = if n ∈ kys D then kys D else kys D ++ [n]
 | [] => rfl
 | x :: D => by
  unfold inc
  have hk : kys (x :: D) = x.1 :: kys D:=rfl
  rw [hk]
  by_cases e : x.1 = n
  ·rw [if_pos e,if_pos (List.mem_cons.2 (.inl e.symm))]
   exact hk
  ·rw [if_neg e]
   show x.1 :: kys (inc n D) = _
   rw [inc_k n D]
   by_cases h : n ∈ kys D
   ·rw [if_pos h,if_pos (List.mem_cons.2 (.inr h))]
   ·rw [if_neg h,if_neg fun h2 => (List.mem_cons.1 h2).elim (fun h3 => e h3.symm) h]; rfl
theorem inc_tot (n : Int) : ∀ D,tot (inc n D) = tot D + 1
 | [] => rfl
 | x :: D => by
  unfold inc
  by_cases e : x.1 = n
  ·rw [if_pos e]; show tot D + (x.2 + 1) = tot D + x.2 + 1; omega
  ·rw [if_neg e]; show tot (inc n D) + x.2 = tot D + x.2 + 1; rw [inc_tot n D]; omega
theorem inc_pos (n : Int) : ∀ D,(∀ x ∈ D,1 <= x.2) -> ∀ x ∈ inc n D,1 <= x.2
 | [],_,x,h => by
  unfold inc at h
  simp only [List.mem_cons,List.not_mem_nil,or_false] at h
  subst h; exact Nat.le_refl 1
 | y :: D,hp,x,h => by
  unfold inc at h
  by_cases e : y.1 = n
  ·rw [if_pos e] at h
   rcases List.mem_cons.1 h with rfl | h
   ·show 1 <= y.2 + 1; omega
   ·exact hp x (List.mem_cons.2 (.inr h))
  ·rw [if_neg e] at h
   rcases List.mem_cons.1 h with rfl | h
   ·exact hp _ (List.mem_cons.2 (.inl rfl))
   ·exact inc_pos n D (fun z hz => hp z (List.mem_cons.2 (.inr hz))) x h
theorem cf_powL (p : List Rat) (a : Int) : ∀ m k,cf (powL p a m) k = cnv (cf p) (pw (lf a) m) k
 | 0,k => by
  show cf p k = cnv (cf p) one0 k
  rw [cnv_comm,cnv_one]
 | m + 1,k => by
  show cf (mulP (powL p a m) (lin a)) k = cnv (cf p) (cnv (pw (lf a) m) (lf a)) k
  rw [cf_mulP,cnv_congr (cf_powL p a m) (fun _ => rfl),cnv_assoc]
theorem pF_gw (c : Rat) : ∀ D,(∀ x ∈ D,1 <= x.2) -> ∀ k,pF c D k = cnv (cf (gL c D)) (cf (wL D)) k
 | [],_,k => by
  show cf [c] k = cnv (cf [c]) (cf [1]) k
  have e : cf [(1 : Rat)] = one0:=funext fun i => by cases i <;> rfl
  rw [e,cnv_comm,cnv_one]
 | x :: D,hp,k => by
  have ih:=pF_gw c D fun z hz => hp z (List.mem_cons.2 (.inr hz))
  have hx:=hp x (List.mem_cons.2 (.inl rfl))
  obtain ⟨m,hm⟩ : ∃ m,x.2 = m + 1:=⟨x.2 - 1,by omega⟩
  show cnv (pF c D) (pw (lf x.1) x.2) k = cnv (cf (powL (gL c D) x.1 (x.2 - 1))) (cf (mulP (wL D) (lin x.1))) k
  rw [hm,Nat.add_sub_cancel,cnv_congr ih (fun _ => rfl)]
  show cnv (cnv (cf (gL c D)) (cf (wL D))) (cnv (pw (lf x.1) m) (lf x.1)) k = _
  rw [cnv4]
  exact cnv_congr (fun i => (cf_powL _ _ _ i).symm) fun i => (cf_mulP _ _ i).symm
theorem pF_dif (c : Rat) : ∀ D,(∀ x ∈ D,1 <= x.2) -> ∀ k,dif (pF c D) k = cnv (cf (gL c D)) (vF D) k
 | [],_,k => by
  show _ * cf [c] (k + 1) = cnv (cf [c]) (fun _ => 0) k
  rw [cf_out (p:=[c]) (i:=k + 1) (by simp),Rat.mul_zero,cnv_comm,cnv_zerol]
 | x :: D,hp,k => by
  have hq:=fun z hz => hp z (List.mem_cons.2 (.inr hz))
  have ih:=pF_dif c D hq
  have iw:=pF_gw c D hq
  have hx:=hp x (List.mem_cons.2 (.inl rfl))
  obtain ⟨m,hm⟩ : ∃ m,x.2 = m + 1:=⟨x.2 - 1,by omega⟩
  show dif (cnv (pF c D) (pw (lf x.1) x.2)) k = cnv (cf (powL (gL c D) x.1 (x.2 - 1))) (fun k => cnv (vF D) (lf x.1) k + (((x.2 : Nat) : Int) : Rat) * cf (wL D) k) k
  rw [hm,Nat.add_sub_cancel,dif_cnv,cnv_congr ih (fun _ => rfl),cnv_congr iw (fun i => dif_pw (lf x.1) m i),cnv_mulr (((m + 1 : Nat) : Int) : Rat),dif_lf]
  have e1 : cnv (cnv (cf (gL c D)) (vF D)) (pw (lf x.1) (m + 1)) k = cnv (cf (powL (gL c D) x.1 m)) (cnv (vF D) (lf x.1)) k:=by
   show cnv (cnv (cf (gL c D)) (vF D)) (cnv (pw (lf x.1) m) (lf x.1)) k = _
   rw [cnv4]
   exact cnv_congr (fun i => (cf_powL _ _ _ i).symm) fun i => rfl
  have e2 : cnv (cnv (cf (gL c D)) (cf (wL D))) (cnv (pw (lf x.1) m) one0) k = cnv (cf (powL (gL c D) x.1 m)) (cf (wL D)) k:=by
   rw [cnv4]
   refine cnv_congr (fun i => (cf_powL _ _ _ i).symm) fun i => ?_
   rw [cnv_comm,cnv_one]
  rw [e1,e2,cnv_add (cf (powL (gL c D) x.1 m)) (cnv (vF D) (lf x.1)) (fun k => (((m + 1 : Nat) : Int) : Rat) * cf (wL D) k),cnv_mulr (((m + 1 : Nat) : Int) : Rat)]
theorem lin_len (a : Int) : (lin a).length = 2:=rfl
theorem lin_mul_bd {N : Nat} {f : Nat -> Rat} {a : Int} (ha : a.natAbs <= 9) (h : ∀ i,Bd 1 N (f i)) (k : Nat) : Bd 1 (10 * N) (cnv f (lf a) k):=by
 have h0 : Bd 1 9 (lf a 0):=bd_int (n:=-a) (by omega)
 have h1 : lf a 1 = 1:=rfl
 cases k with
 | zero =>
  rw [cnv_zero]
  have:=(h 0).mul h0
  exact this.mono (by omega)
 | succ k =>
  rw [cnv_back]
  have e : cnv f (shf (lf a)) k = f k:=by
   have : shf (lf a) = one0:=funext fun i => by
    cases i with
    | zero => rfl
    | succ i => exact lf_out (by omega)
   rw [this,cnv_comm,cnv_one]
  rw [e]
  have:=(h k).add ((h (k + 1)).mul h0)
  exact this.mono (by omega)
theorem one_lst : Lst [(1 : Rat)]:=lst_of fun k hk => by
 have : k = 0:=by simpa using hk.symm
 subst this
 show (1 : Rat) ≠ 0
 decide
def Small (D : List (Int × Nat)) : Prop:=∀ x ∈ D,x.1.natAbs <= 9
theorem Small.tl {x : Int × Nat} {D : List (Int × Nat)} (h : Small (x :: D)) : Small D:=fun z hz => h z (List.mem_cons.2 (.inr hz))
theorem Small.hd {x : Int × Nat} {D : List (Int × Nat)} (h : Small (x :: D)) : x.1.natAbs <= 9:=h x (List.mem_cons.2 (.inl rfl))
theorem wL_ok : ∀ D,Small D -> (wL D).length = D.length + 1 ∧ Lst (wL D) ∧ BdL 1 (10 ^ D.length) (wL D)
 | [],_ => ⟨rfl,one_lst,bdl_of (by decide) fun i hi => by
   have : i = 0:=by simpa [wL] using hi
   subst this
   exact bd_int (n:=1) (by decide)⟩
 | x :: D,h => by
  obtain ⟨h1,h2,h3⟩:=wL_ok D h.tl
  refine ⟨?_,mulP_lst h2 (lin_lst _),fun i => ?_⟩
  ·show (mulP (wL D) (lin x.1)).length = _
   rw [mulP_len0 (by omega) (by rw [lin_len]; decide),h1,lin_len]
   simp
  ·show Bd 1 _ (cf (mulP (wL D) (lin x.1)) i)
   rw [cf_mulP,List.length_cons,Nat.pow_succ,Nat.mul_comm]
   exact lin_mul_bd h.hd h3 i
theorem powL_ok {N : Nat} {p : List Rat} {a : Int} (ha : a.natAbs <= 9) (p0 : 0 < p.length) (tp : Lst p) (bp : BdL 1 N p) : ∀ m,(powL p a m).length = p.length + m ∧ Lst (powL p a m) ∧ BdL 1 (N * 10 ^ m) (powL p a m)
 | 0 => ⟨rfl,tp,by rw [Nat.pow_zero,Nat.mul_one]; exact bp⟩
 | m + 1 => by
  obtain ⟨h1,h2,h3⟩:=powL_ok ha p0 tp bp m
  refine ⟨?_,mulP_lst h2 (lin_lst _),fun i => ?_⟩
  ·show (mulP (powL p a m) (lin a)).length = _
   rw [mulP_len0 (by omega) (by rw [lin_len]; decide),h1,lin_len]
   omega
  ·show Bd 1 _ (cf (mulP (powL p a m) (lin a)) i)
   rw [cf_mulP]
   refine (lin_mul_bd ha h3 i).mono ?_
   rw [Nat.pow_succ,Nat.mul_left_comm 10,Nat.mul_comm 10]
   exact Nat.le_refl _
theorem len_tot : ∀ D : List (Int × Nat),(∀ x ∈ D,1 <= x.2) -> D.length <= tot D
 | [],_ => Nat.le_refl _
 | y :: D,hD => by
  have:=hD y (List.mem_cons.2 (.inl rfl))
  have:=len_tot D fun z hz => hD z (List.mem_cons.2 (.inr hz))
  show D.length + 1 <= tot D + y.2
  omega
theorem gL_ok {N : Nat} {c : Rat} (c0 : c ≠ 0) (bc : Bd 1 N c) : ∀ D,Small D -> (∀ x ∈ D,1 <= x.2) -> (gL c D).length + D.length = tot D + 1 ∧ Lst (gL c D) ∧ BdL 1 (N * 10 ^ tot D) (gL c D)
 | [],_,_ => ⟨rfl,lst_of fun k hk => by
   have : k = 0:=by simpa [gL] using hk.symm
   subst this
   exact c0,bdl_of (by decide) fun i hi => by
   have : i = 0:=by simpa [gL] using hi
   subst this
   show Bd 1 (N * 10 ^ 0) c
   rw [Nat.pow_zero,Nat.mul_one]; exact bc⟩
 | x :: D,h,hp => by
  have hx:=hp x (List.mem_cons.2 (.inl rfl))
  have hq:=fun z hz => hp z (List.mem_cons.2 (.inr hz))
  have t2:=len_tot D hq
  obtain ⟨h1,h2,h3⟩:=gL_ok c0 bc D h.tl hq
  obtain ⟨g1,g2,g3⟩:=powL_ok h.hd (by omega) h2 h3 (x.2 - 1)
  refine ⟨?_,g2,fun i => (g3 i).mono ?_⟩
  ·show (powL (gL c D) x.1 (x.2 - 1)).length + (D.length + 1) = tot D + x.2 + 1
   omega
  ·show N * 10 ^ tot D * 10 ^ (x.2 - 1) <= N * 10 ^ (tot D + x.2)
   rw [Nat.mul_assoc,<- Nat.pow_add]
   exact Nat.mul_le_mul_left _ (Nat.pow_le_pow_right (by decide) (by omega))
theorem vF_ok : ∀ D,Small D -> tot D <= 12 -> (∀ i,D.length <= i -> vF D i = 0) ∧ ∀ i,Bd 1 (12 * D.length * 10 ^ D.length) (vF D i)
 | [],_,_ => ⟨fun _ _ => rfl,fun _ => bd_zero (by decide)⟩
 | x :: D,h,ht => by
  have ht : tot D + x.2 <= 12:=ht
  obtain ⟨h1,h2⟩:=vF_ok D h.tl (by omega)
  obtain ⟨w1,w2,w3⟩:=wL_ok D h.tl
  refine ⟨fun i hi => ?_,fun i => ?_⟩
  ·show cnv (vF D) (lf x.1) i + _ * cf (wL D) i = 0
   have hi : D.length + 1 <= i:=hi
   rw [cf_out (p:=wL D) (by omega),Rat.mul_zero,Rat.add_zero]
   by_cases e : i = D.length + 1
   ·subst e
    rw [cnv_top (i:=D.length) (e:=1) (fun j hj => h1 j (by omega)) (fun j hj => lf_out (by omega)),h1 _ (Nat.le_refl _),Rat.zero_mul]
   ·exact cnv_sup (n:=D.length) (m:=2) h1 (fun j hj => lf_out hj) i (by omega)
  ·show Bd 1 _ (cnv (vF D) (lf x.1) i + (((x.2 : Nat) : Int) : Rat) * cf (wL D) i)
   have a:=lin_mul_bd h.hd h2 i
   have b:=(bd_int (n:=((x.2 : Nat) : Int)) (N:=12) (by omega)).mul (w3 i)
   refine (a.add b).mono ?_
   show 10 * (12 * D.length * 10 ^ D.length) + 12 * 10 ^ D.length <= 12 * (D.length + 1) * 10 ^ (D.length + 1)
   rw [Nat.pow_succ]
   generalize 10 ^ D.length = z
   have e : 12 * (D.length + 1) * (z * 10) = 10 * (12 * D.length * z) + 120 * z:=by
    rw [Nat.mul_add,Nat.add_mul,Nat.mul_comm z 10,<- Nat.mul_assoc,Nat.mul_comm (12 * D.length) 10,Nat.mul_assoc 10]
    omega
   omega
def vL (D : List (Int × Nat)) : List Rat:=clipP ((List.range D.length).map (vF D))
theorem cf_vL {D : List (Int × Nat)} (h : Small D) (ht : tot D <= 12) (i : Nat) : cf (vL D) i = vF D i:=by
 unfold vL
 rw [cf_clip,cf_rng]
 by_cases e : i < D.length
 ·rw [if_pos e]
 ·rw [if_neg e,(vF_ok D h ht).1 i (by omega)]
theorem vL_len (D : List (Int × Nat)) : (vL D).length <= D.length:=by
 have:=clip_len ((List.range D.length).map (vF D))
 unfold vL
 simp at this
 omega
theorem hv_lf (a b : Int) : hv (lf b) (a : Rat) 2 = (a : Rat) - (b : Rat):=by
 show 0 + ((-b : Int) : Rat) * 1 + 1 * (1 * (a : Rat)) = _
 rw [Rat.intCast_neg]; grind
theorem hv_w {n : Int} : ∀ D,Small D -> n ∉ kys D -> hv (cf (wL D)) (n : Rat) (D.length + 1) ≠ 0
 | [],_,_ => by
  show (0 : Rat) + 1 * 1 ≠ 0
  rw [Rat.mul_one,Rat.zero_add]
  decide
 | x :: D,h,hn => by
  obtain ⟨w1,w2,w3⟩:=wL_ok D h.tl
  have ih:=hv_w D h.tl fun h2 => hn (List.mem_cons.2 (.inr h2))
  rw [show cf (wL (x :: D)) = cnv (cf (wL D)) (lf x.1) from funext fun i => cf_mulP _ _ i]
  have:=hv_cnv (x:=(n : Rat)) (fun i hi => lf_out (a:=x.1) hi) (n:=D.length + 1) (f:=cf (wL D)) (N:=D.length + 1 + 2) (fun i hi => cf_out (by omega)) (Nat.le_refl _)
  rw [hv_more (n:=(x :: D).length + 1) (m:=D.length + 1 + 2) (by simp) (fun i hi => ?_)] at this
  ·rw [this,hv_lf]
   intro e
   rcases Rat.mul_eq_zero.1 e with e | e
   ·exact ih e
   ·have : (n : Rat) = (x.1 : Rat):=by grind
    exact hn (List.mem_cons.2 (.inl (Rat.intCast_inj.1 this)))
  ·rw [<- cf_mulP]
   refine cf_out ?_
   rw [mulP_len0 (by omega) (by rw [lin_len]; decide),lin_len]
   simp at hi
   omega
theorem hv_prod {a b : Int} {f : Nat -> Rat} {n N : Nat} (hf : ∀ i,n <= i -> f i = 0) (hN : n + 1 <= N) : hv (cnv f (lf b)) (a : Rat) N = hv f (a : Rat) n * ((a : Rat) - (b : Rat)):=by
 have h:=hv_cnv (x:=(a : Rat)) (fun i hi => lf_out (a:=b) hi) (n:=n) (f:=f) (N:=N + 1) hf (by omega)
 rw [hv_lf] at h
 rw [<- h]
 refine (hv_more (by omega) fun i hi => ?_).symm
 by_cases e : i = n
 ·omega
 ·by_cases e2 : n = 0
  ·exact psum_zero fun j _ => by rw [hf j (by omega),Rat.zero_mul]
  ·by_cases e3 : i = n + 1
   ·subst e3
    rw [cnv_top (i:=n) (e:=1) (fun j hj => hf j (by omega)) (fun j hj => lf_out (by omega)),hf _ (Nat.le_refl _),Rat.zero_mul]
   ·exact cnv_sup hf (m:=2) (fun j hj => lf_out hj) i (by omega)
theorem dif_out {f : Nat -> Rat} {n : Nat} (h : ∀ i,n <= i -> f i = 0) : ∀ i,n - 1 <= i -> dif f i = 0:=fun i hi => by
 unfold dif
 rw [h (i + 1) (by omega),Rat.mul_zero]
theorem hv_ext {f g : Nat -> Rat} {x : Rat} {n : Nat} (h : ∀ i,f i = g i) : hv f x n = hv g x n:=by rw [show f = g from funext h]
theorem roots : ∀ D,Small D -> tot D <= 12 -> (kys D).Nodup -> (∀ x ∈ D,1 <= x.2) -> ∀ a m,(a,m) ∈ D -> hv (cf (wL D)) (a : Rat) (D.length + 1) = 0 ∧ hv (dif (cf (wL D))) (a : Rat) (D.length + 1) ≠ 0 ∧ hv (vF D) (a : Rat) (D.length + 1) = (((m : Nat) : Int) : Rat) * hv (dif (cf (wL D))) (a : Rat) (D.length + 1)
 | [],_,_,_,_,_,_,h => by cases h
 | x :: D,h,ht,hd,hp,a,m,hm => by
  have ht : tot D + x.2 <= 12:=ht
  obtain ⟨w1,w2,w3⟩:=wL_ok D h.tl
  obtain ⟨v1,_⟩:=vF_ok D h.tl (by omega)
  have hd2 : x.1 ∉ kys D ∧ (kys D).Nodup:=List.nodup_cons.1 hd
  have wz : ∀ i,D.length + 1 <= i -> cf (wL D) i = 0:=fun i hi => cf_out (by omega)
  have dz : ∀ i,D.length <= i -> dif (cf (wL D)) i = 0:=dif_out wz
  have ew : cf (wL (x :: D)) = cnv (cf (wL D)) (lf x.1):=funext fun i => cf_mulP _ _ i
  have ed : dif (cf (wL (x :: D))) = fun i => cnv (dif (cf (wL D))) (lf x.1) i + cf (wL D) i:=funext fun i => by
   rw [ew,dif_cnv,dif_lf,cnv_comm (cf (wL D)) one0,cnv_one]
  have hw : hv (cf (wL (x :: D))) (a : Rat) ((x :: D).length + 1) = hv (cf (wL D)) (a : Rat) (D.length + 1) * ((a : Rat) - (x.1 : Rat)):=by
   rw [ew]; exact hv_prod wz (Nat.le_refl _)
  have hdw : hv (dif (cf (wL (x :: D)))) (a : Rat) ((x :: D).length + 1) = hv (dif (cf (wL D))) (a : Rat) (D.length + 1) * ((a : Rat) - (x.1 : Rat)) + hv (cf (wL D)) (a : Rat) (D.length + 1):=by
   rw [ed,hv_add (cnv (dif (cf (wL D))) (lf x.1)) (cf (wL D)),hv_prod (n:=D.length + 1) (N:=(x :: D).length + 1) (fun i hi => dz i (by omega)) (Nat.le_refl _),hv_more (f:=cf (wL D)) (n:=D.length + 1) (m:=(x :: D).length + 1) (by simp) wz]
  have hvv : hv (vF (x :: D)) (a : Rat) ((x :: D).length + 1) = hv (vF D) (a : Rat) (D.length + 1) * ((a : Rat) - (x.1 : Rat)) + (((x.2 : Nat) : Int) : Rat) * hv (cf (wL D)) (a : Rat) (D.length + 1):=by
   show hv (fun k => cnv (vF D) (lf x.1) k + (((x.2 : Nat) : Int) : Rat) * cf (wL D) k) _ _ = _
   rw [hv_add (cnv (vF D) (lf x.1)) (fun k => (((x.2 : Nat) : Int) : Rat) * cf (wL D) k),hv_scale (((x.2 : Nat) : Int) : Rat),hv_prod (n:=D.length + 1) (N:=(x :: D).length + 1) (fun i hi => v1 i (by omega)) (Nat.le_refl _),hv_more (f:=cf (wL D)) (n:=D.length + 1) (m:=(x :: D).length + 1) (by simp) wz]
  rw [hw,hdw,hvv]
  rcases List.mem_cons.1 hm with e | hm
  ·have e1 : x.1 = a:=congrArg (·.1) e.symm
   have e2 : x.2 = m:=congrArg (·.2) e.symm
   subst e1 e2
   have:=hv_w D h.tl hd2.1
   refine ⟨by grind,?_,by grind⟩
   intro e
   apply this
   grind
  ·obtain ⟨r1,r2,r3⟩:=roots D h.tl (by omega) hd2.2 (fun z hz => hp z (List.mem_cons.2 (.inr hz))) a m hm
   have na : (a : Rat) - (x.1 : Rat) ≠ 0:=fun e => hd2.1 (List.mem_map.2 ⟨(a,m),hm,by
    have : (a : Rat) = (x.1 : Rat):=by grind
    exact Rat.intCast_inj.1 this⟩)
   rw [r1,r3]
   refine ⟨by grind,?_,by grind⟩
   intro e
   rcases Rat.mul_eq_zero.1 (show hv (dif (cf (wL D))) (a : Rat) (D.length + 1) * ((a : Rat) - (x.1 : Rat)) = 0 by grind) with e | e
   ·exact r2 e
   ·exact na e
theorem factor_root {h : List Rat} (th : Lst h) (h2 : 2 <= h.length) : ∀ D {s : Nat -> Rat},Small D -> Fs s -> (∀ k,cf (wL D) k = cnv s (cf h) k) -> ∃ a m,(a,m) ∈ D ∧ hv (cf h) (a : Rat) h.length = 0
 | [],s,_,fs,e => by
  have top:=lst_at th (k:=h.length - 1) (by omega)
  rcases fs_top fs with hz | ⟨i,hi,hj⟩
  ·have:=e 0
   rw [show s = fun _ => 0 from funext hz,cnv_zerol] at this
   exact absurd this (show (1 : Rat) ≠ 0 by decide)
  ·have:=cnv_top (d:=cf h) (e:=h.length - 1) hj (fun j hj => cf_out (p:=h) (i:=j) (by omega))
   rw [<- e,cf_out (p:=wL []) (by show 1 <= _; omega)] at this
   rcases Rat.mul_eq_zero.1 this.symm with e | e
   ·exact absurd e hi
   ·exact absurd e top
 | x :: D,s,hs,fs,e => by
  by_cases hb : hv (cf h) (x.1 : Rat) h.length = 0
  ·exact ⟨x.1,x.2,List.mem_cons.2 (.inl rfl),hb⟩
  ·obtain ⟨w1,w2,w3⟩:=wL_ok D hs.tl
   obtain ⟨n,hn⟩:=fs
   have hn2 : ∀ i,n + 2 <= i -> s i = 0:=fun i hi => hn i (by omega)
   obtain ⟨S,hS⟩ : ∃ S : List Rat,S = (List.range (n + 2)).map s:=⟨_,rfl⟩
   have Sl : S.length = n + 2:=by rw [hS]; simp
   have eS : ∀ i,cf S i = s i:=fun i => by
    rw [hS,cf_rng]
    by_cases h : i < n + 2
    ·rw [if_pos h]
    ·rw [if_neg h,hn2 i (by omega)]
   have vs : hv s (x.1 : Rat) (n + 2) = 0:=by
    have a1:=hv_cnv (x:=(x.1 : Rat)) (fun i hi => cf_out (p:=h) (i:=i) hi) (n:=n + 2) (f:=s) (N:=n + 2 + h.length + D.length + 2) hn2 (by omega)
    rw [hv_ext (g:=cf (wL (x :: D))) (fun i => (e i).symm),show cf (wL (x :: D)) = cnv (cf (wL D)) (lf x.1) from funext fun i => cf_mulP _ _ i,
     hv_prod (n:=D.length + 1) (fun i hi => cf_out (by omega)) (by omega)] at a1
    rcases Rat.mul_eq_zero.1 (show hv s (x.1 : Rat) (n + 2) * hv (cf h) (x.1 : Rat) h.length = 0 by grind) with e | e
    ·exact e
    ·exact absurd e hb
   have di:=fun j => div_id (p:=S) (q:=lin x.1) (by rw [lin_len]; decide) (by rw [lin_len]; omega) (by show (1 : Rat) ≠ 0; decide) j
   have rl : (divR0 S (lin x.1)).length = 1:=by unfold divR0; simp
   have ql : (divQ S (lin x.1)).length = n + 1:=by unfold divQ; simp; omega
   have r0 : cf (divR0 S (lin x.1)) 0 = 0:=by
    have a2 : hv (cf S) (x.1 : Rat) (n + 2) = hv (cf (divQ S (lin x.1))) (x.1 : Rat) (n + 1) * ((x.1 : Rat) - (x.1 : Rat)) + hv (cf (divR0 S (lin x.1))) (x.1 : Rat) (n + 2):=by
     rw [show cf S = fun j => cnv (cf (divQ S (lin x.1))) (lf x.1) j + cf (divR0 S (lin x.1)) j from funext di,hv_add (cnv (cf (divQ S (lin x.1))) (lf x.1)) (cf (divR0 S (lin x.1))),hv_prod (n:=n + 1) (fun i hi => cf_out (by omega)) (Nat.le_refl _)]
    rw [hv_ext eS,vs,hv_more (f:=cf (divR0 S (lin x.1))) (n:=1) (m:=n + 2) (by omega) (fun i hi => cf_out (by omega))] at a2
    have a3 : hv (cf (divR0 S (lin x.1))) (x.1 : Rat) 1 = cf (divR0 S (lin x.1)) 0:=by
     show 0 + _ * 1 = _
     rw [Rat.mul_one,Rat.zero_add]
    rw [a3] at a2
    grind
   have es : ∀ i,s i = cnv (cf (divQ S (lin x.1))) (lf x.1) i:=fun i => by
    rw [<- eS,di]
    have : cf (divR0 S (lin x.1)) i = 0:=by
     cases i with
     | zero => exact r0
     | succ i => exact cf_out (by omega)
    rw [this,Rat.add_zero]
   generalize divQ S (lin x.1) = Q at *
   have key : ∀ k,cnv (fun i => cf (wL D) i - cnv (cf Q) (cf h) i) (cf (lin x.1)) k = 0:=fun k => by
    rw [cnv_subl (cf (lin x.1)) (cf (wL D)) (cnv (cf Q) (cf h)),<- cf_mulP]
    have a4:=e k
    rw [cnv_congr es (fun _ => rfl),<- cnv_assoc] at a4
    have a5 : cnv (cnv (cf Q) (cf h)) (cf (lin x.1)) k = cnv (cf Q) (cnv (lf x.1) (cf h)) k:=by
     rw [<- cnv_assoc]; exact cnv_congr (fun _ => rfl) fun i => cnv_comm _ _ i
    rw [a5,<- a4]
    show cf (wL (x :: D)) k - cf (wL (x :: D)) k = 0
    grind
   have hz:=mul_short (d:=lin x.1) ((fs_cf (wL D)).sub ((fs_cf Q).cnv (fs_cf h))) key (show (1 : Rat) ≠ 0 by decide) (by rw [lin_len]; decide) fun _ _ => rfl
   obtain ⟨a,m,ha,hh⟩:=factor_root th h2 D hs.tl (fs_cf Q) fun k => by have:=hz k; grind
   exact ⟨a,m,List.mem_cons.2 (.inr ha),hh⟩
end Ab
end
section
open Go Go.Proofs
namespace Ab
set_option maxRecDepth 100000
set_option maxHeartbeats 1000000
theorem Squarefree_spec (gl : List (Nat × AV)) {p g A R : List Rat} {n : Nat} (hp : Poly p) (p0 : 0 < p.length) (okd : ∀ i,i + 1 < p.length -> FM (((i + 1 : Nat) : Int) : Rat) (cf p (i + 1))) (hg : GcdR n p (derP p) g) (g0 : 0 < g.length) (g65 : g.length <= 65)
  (hd : DivR p g A R) (lA : A.length <= 65) (hm : MonOk A) : Spec Tryz.prog gl 38 [polyV p] (.tup [polyV (monP A),.int .i64 0]):=by
 have w:=want1 gl hp
 have d:=derive_spec gl (Nat.le_trans hp.2.1 (by decide)) okd
 have gc:=gcd_uni gl hg
 have dv:=divide_spec gl g0 hp.2.1 g65 hd
 have m:=monic_spec gl lA hm
 have lp:=poly_len p
 refine spec_fn T_ok mixed_ok 0 Tryz.func38 fn_ok38 (by kernel_rfl) ?_
 refine And.intro (Nat.le_refl 1) ?_
 first | refine Exists.intro _ (And.intro (w) ?_) | refine Hn_by (Exists.intro _ (And.intro (w) ?_))
 refine brE (fun g => absurd (show ((p.map rv).length : Int) = 0 from g) (by omega)) (fun _ => ?_)
 first | refine Exists.intro _ (And.intro (d) ?_) | refine Hn_by (Exists.intro _ (And.intro (d) ?_))
 first | refine Exists.intro _ (And.intro (gc) ?_) | refine Hn_by (Exists.intro _ (And.intro (gc) ?_))
 first | refine Exists.intro _ (And.intro (dv) ?_) | refine Hn_by (Exists.intro _ (And.intro (dv) ?_))
 first | refine Exists.intro _ (And.intro (m) ?_) | refine Hn_by (Exists.intro _ (And.intro (m) ?_))
 repeat (first | refine gT ?_ | refine gF ?_ | refine brT ?_ | refine brF ?_)
 exact And.intro (Or.inr rfl) rfl
theorem Squarefree_nil (gl : List (Nat × AV)) : Spec Tryz.prog gl 38 [polyV []] (.tup [polyV [],.int .i64 4]):=by
 have w:=want1 gl (p:=[]) poly_nil
 refine spec_fn T_ok mixed_ok 0 Tryz.func38 fn_ok38 (by kernel_rfl) ?_
 refine And.intro (Nat.le_refl 1) ?_
 first | refine Exists.intro _ (And.intro (w) ?_) | refine Hn_by (Exists.intro _ (And.intro (w) ?_))
 refine brE (fun _ => ?_) (fun g => absurd rfl g)
 exact And.intro (Or.inr rfl) rfl
def PD (c : Rat) (D : List (Int × Nat)) : List Rat:=mulP (wL D) (gL c D)
theorem coprime {D : List (Int × Nat)} {v h : List Rat} {N : Nat} (hs : Small D) (hv0 : ∀ a m,(a,m) ∈ D -> hv (cf v) (a : Rat) N ≠ 0) (hN : v.length <= N) (hA : Alg (wL D) v h) (th : Lst h) (hm : h.length = 0 ∨ cf h (h.length - 1) = 1) : h = [1]:=by
 obtain ⟨_,_,s,t,_,_,fs,ft,_,e2,e3⟩:=hA
 obtain ⟨w1,w2,_⟩:=wL_ok D hs
 have h0 : h.length ≠ 0:=fun e => by
  have eh:=List.eq_nil_of_length_eq_zero e
  have:=e2 D.length
  rw [eh,cnv_congr (g':=fun _ => 0) (fun _ => rfl) (fun i => cf_out (Nat.zero_le _)),cnv_comm,cnv_zerol] at this
  exact lst_at w2 w1 this
 have hm : cf h (h.length - 1) = 1:=hm.resolve_left h0
 have h1 : ¬ 2 <= h.length:=fun h2 => by
  obtain ⟨a,m,ha,hz⟩:=factor_root th h2 D hs fs e2
  apply hv0 a m ha
  obtain ⟨n,hn⟩:=ft
  have:=hv_cnv (x:=(a : Rat)) (fun i hi => cf_out (p:=h) (i:=i) hi) (n:=n) (f:=t) (N:=n + h.length + N) hn (by omega)
  rw [hv_ext (g:=cf v) (fun i => (e3 i).symm),hv_more (n:=N) (by omega) (fun i hi => cf_out (by omega))] at this
  rw [this,hz,Rat.mul_zero]
 match h,h0,h1,hm with
 | [],h0,_,_ => exact absurd rfl h0
 | [x],_,_,hm =>
  have : x = 1:=hm
  rw [this]
 | _ :: _ :: l,_,h1,_ => exact absurd (show 2 <= l.length + 1 + 1 by omega) h1
theorem wL_top : ∀ D,Small D -> cf (wL D) D.length = 1
 | [],_ => rfl
 | x :: D,h => by
  obtain ⟨w1,_,_⟩:=wL_ok D h.tl
  have:=mulP_top (p:=wL D) (q:=lin x.1) (by omega) (by rw [lin_len]; decide)
  rw [mulP_len0 (by omega) (by rw [lin_len]; decide),lin_len,w1] at this
  show cf (mulP (wL D) (lin x.1)) (D.length + 1) = 1
  rw [show D.length + 1 = D.length + 1 + 2 - 1 - 1 by omega,this,Nat.add_sub_cancel,wL_top D h.tl]
  show (1 : Rat) * 1 = 1
  exact Rat.mul_one _
theorem monP_one_eq {p : List Rat} (h : cf p (p.length - 1) = 1) (tp : Lst p) : monP p = p :=
 lst_ext (monP_lst tp) tp fun i => by rw [cf_monP,h]; grind
theorem gok_sqf : ∀ lf,lf <= 5 -> ∀ lg,lg <= 4 -> gok 9 320 53 lf lg 14 19 = true:=by decide +kernel
structure SqOk (D : List (Int × Nat)) : Prop where
 s : Small D
 t : tot D <= 12
 l : D.length <= 4
 d : (kys D).Nodup
 p : ∀ x ∈ D,1 <= x.2
theorem sb_int {a N : Nat} {p : List Rat} (h : BdL 1 N p) (h2 : N <= 2 ^ a) : SB a p:=⟨1,N,Nat.one_le_two_pow,h2,h⟩
theorem pow10 {n m : Nat} (h : n <= m) : 10 ^ n <= 10 ^ m:=Nat.pow_le_pow_right (by decide) h
theorem SqOk.w {D : List (Int × Nat)} (h : SqOk D) : SB 14 (wL D):=sb_int (wL_ok D h.s).2.2 (Nat.le_trans (pow10 h.l) (by decide))
theorem SqOk.v {D : List (Int × Nat)} (h : SqOk D) : SB 19 (vL D):=by
 refine sb_int (N:=12 * 4 * 10 ^ 4) (bdl_of (by decide) fun i _ => ?_) (by decide)
 rw [cf_vL h.s h.t]
 exact ((vF_ok D h.s h.t).2 i).mono (Nat.mul_le_mul (Nat.mul_le_mul_left _ h.l) (pow10 h.l))
theorem PD_cf {D : List (Int × Nat)} (h : SqOk D) (c : Rat) (k : Nat) : cf (PD c D) k = pF c D k:=by
 unfold PD
 rw [cf_mulP,cnv_comm]
 exact (pF_gw c D h.p k).symm
theorem divR_len {p q a r : List Rat} (h : DivR p q a r) (hl : q.length <= p.length) : a.length = p.length - (q.length - 1):=by
 cases h with
 | short h2 => omega
 | long _ _ => unfold divQ; rw [List.length_map,List.length_range]
section
variable {D : List (Int × Nat)} (h : SqOk D) {c : Rat} (c0 : c ≠ 0) (bc : Bd 1 50 c)
include h c0 bc
theorem SqOk.g : SB 46 (gL c D):=sb_int (gL_ok c0 bc D h.s h.p).2.2 (Nat.le_trans (Nat.mul_le_mul_left _ (pow10 h.t)) (by decide))
theorem PD_lst : Lst (PD c D):=mulP_lst (wL_ok D h.s).2.1 (gL_ok c0 bc D h.s h.p).2.1
theorem PD_len : (PD c D).length = tot D + 1:=by
 obtain ⟨w1,_,_⟩:=wL_ok D h.s
 obtain ⟨g1,_,_⟩:=gL_ok c0 bc D h.s h.p
 have:=len_tot D h.p
 unfold PD
 rw [mulP_len0 (by omega) (by omega)]
 omega
theorem PD_sb : SB 67 (PD c D):=h.w.mul (h.g c0 bc) (by have:=(wL_ok D h.s).1; have:=(gL_ok c0 bc D h.s h.p).1; have:=h.l; have:=h.t; omega)
theorem PD_der : derP (PD c D) = mulP (vL D) (gL c D):=by
 obtain ⟨d,N,_,_,b⟩:=PD_sb h c0 bc
 refine lst_ext (lst_of fun k hk => ?_) (mulP_lst (clip_lst _) (gL_ok c0 bc D h.s h.p).2.1) fun i => ?_
 ·rw [derP_len] at hk
  rw [cf_derP]
  have:=lst_at (PD_lst h c0 bc) (k:=k + 1) (by omega)
  unfold dif
  intro e
  rcases Rat.mul_eq_zero.1 e with e | e
  ·have:=Rat.intCast_inj.1 (e.trans Rat.intCast_zero.symm)
   omega
  ·exact this e
 ·rw [cf_derP,cf_mulP,show cf (PD c D) = pF c D from funext (PD_cf h c),pF_dif c D h.p,cnv_comm]
  exact cnv_congr (fun i => (cf_vL h.s h.t i).symm) fun _ => rfl
theorem sqf_spec : Spec Tryz.prog [] 38 [polyV (PD c D)] (.tup [polyV (wL D),.int .i64 0]):=by
 obtain ⟨w1,w2,w3⟩:=wL_ok D h.s
 obtain ⟨g1,g2,g3⟩:=gL_ok c0 bc D h.s h.p
 have dl:=h.l
 have dt:=h.t
 have vl:=vL_len D
 have pl:=PD_len h c0 bc
 have tp:=PD_lst h c0 bc
 have sp:=PD_sb h c0 bc
 have sg:=h.g c0 bc
 have gl0 : 0 < (gL c D).length:=by have:=PD_len h c0 bc; unfold PD at this; apply Decidable.byContradiction; intro hn; rw [List.eq_nil_of_length_eq_zero (show (gL c D).length = 0 by omega)] at this; unfold mulP at this; rw [if_pos (.inr rfl)] at this; cases this
 obtain ⟨k,f,hk1,hk2,hA,hS,hT,hL,hM⟩:=chain (cap:=320) (e:=46) (by decide) g2 gl0 sg (by omega) 9 (gok_sqf _ (by omega) _ (by omega)) h.w h.v w2 (clip_lst _) (by omega) (by omega) (scal_refl _) (scal_refl _) sg sg
 have ef:=coprime (N:=D.length + 1) h.s (fun a m ha => by
  rw [hv_ext (cf_vL h.s h.t)]
  obtain ⟨_,r2,r3⟩:=roots D h.s h.t h.d h.p a m ha
  rw [r3]
  intro e
  rcases Rat.mul_eq_zero.1 e with e | e
  ·have:=Rat.intCast_inj.1 (e.trans Rat.intCast_zero.symm)
   have : 1 <= m:=h.p _ ha
   omega
  ·exact r2 e) (by omega) hA hT hM
 subst ef
 have e1 : mulP [1] (gL c D) = gL c D:=lst_ext (mulP_lst one_lst g2) g2 fun i => by
  rw [cf_mulP,show cf [(1 : Rat)] = one0 from funext fun i => by cases i <;> rfl,cnv_one]
 rw [e1,<- PD_der h c0 bc] at hk2
 obtain ⟨G,hG⟩ : ∃ G,G = gL c D:=⟨_,rfl⟩
 rw [<- hG] at hk2 g1 g2 g3 sg gl0
 have ePD : mulP (wL D) G = PD c D:=by unfold PD; rw [hG]
 rw [ePD] at hk2
 have lead:=lst_at g2 (k:=G.length - 1) (by omega)
 have tm:=monP_lst g2
 have lm:=monP_len G
 have sm:=mon_sb sg g2
 obtain ⟨A,R,dR,hid,hrl,tR,_⟩:=div_ex sp sm tp tm (by omega) (by omega) (by
  have : (PD c D).length + 1 - (monP G).length <= 13:=by omega
  have:=Nat.mul_le_mul_right (46 + 1) this
  omega)
 have em : ∀ k,cf (PD c D) k = cnv (fun i => cf G (G.length - 1) * cf (wL D) i) (cf (monP G)) k:=fun k => by
  unfold PD
  rw [<- hG,cf_mulP,cnv_mulc (cf G (G.length - 1)) (cf (wL D)),<- cnv_mulr (cf G (G.length - 1)) (cf (wL D))]
  refine cnv_congr (fun _ => rfl) fun i => ?_
  rw [cf_monP]; grind
 have fw:=(fs_cf (wL D)).scale (cf G (G.length - 1))
 have top:=lst_at tm (k:=(monP G).length - 1) (by omega)
 have hz:=rest_zero fw (fs_cf A) em hid top (by omega) hrl
 have er : R = []:=lst_ext tR (fun h => absurd rfl h) fun i => by rw [hz]; exact (cf_out (Nat.zero_le _)).symm
 subst er
 have ha:=mul_short (r:=fun _ => 0) ((fs_cf A).sub fw) (fun k => by
  rw [cnv_subl (cf (monP G)) (cf A) (fun i => cf G (G.length - 1) * cf (wL D) i),<- em,hid,cf_out (p:=[]) (Nat.zero_le _)]; grind) top (by omega) fun _ _ => rfl
 have ea : ∀ i,cf A i = cf G (G.length - 1) * cf (wL D) i:=fun i => by have:=ha i; grind
 have eP : (PD c D).length + 1 = (wL D).length + G.length:=by
  unfold PD
  rw [<- hG,mulP_len0 (by omega) (by omega)]
  omega
 have lA : A.length = (wL D).length:=by
  have:=divR_len dR (by omega)
  omega
 have tA : Lst A:=lst_of fun k hk => by
  rw [ea]
  have:=lst_at w2 (k:=k) (by omega)
  intro e
  rcases Rat.mul_eq_zero.1 e with e | e
  ·exact lead e
  ·exact this e
 have mA : monP A = wL D:=by
  rw [monP_scal lA lead ea tA w2]
  exact monP_one_eq (by rw [w1]; exact wL_top D h.s) w2
 have sA : SB 60 A:=by
  obtain ⟨x,X,x1,x2,x3⟩:=sg
  obtain ⟨y,Y,y1,y2,y3⟩:=h.w
  refine ⟨x * y,X * Y,?_,?_,fun i => ?_⟩
  ·exact Nat.le_trans (Nat.mul_le_mul x1 y1) (by decide)
  ·exact Nat.le_trans (Nat.mul_le_mul x2 y2) (by decide)
  ·rw [ea]; exact (x3 _).mul (y3 i)
 rw [<- mA]
 refine Squarefree_spec [] (sp.poly (by decide) (by omega) tp) (by omega) (fun i hi => ?_) hk2 (by omega) (by omega) dR (by omega) (mon_ok sA (by decide) tA)
 obtain ⟨x,X,x1,x2,x3⟩:=sp
 refine bd_fm (bd_int (n:=((i + 1 : Nat) : Int)) (N:=13) (by omega)) (x3 (i + 1)) (sz_two (a:=4) (b:=68) (by decide) ?_ (by decide))
 have:=two_two 67
 omega
end
theorem sqf_gcd {D : List (Int × Nat)} (h : SqOk D) : ∃ n,GcdR n (wL D) (derP (wL D)) [1]:=by
 obtain ⟨w1,w2,w3⟩:=wL_ok D h.s
 have dl:=h.l
 have pb : PB 1 (10 ^ 4) 5 (wL D):=⟨fun i => (w3 i).mono (pow10 dl),w2,by omega⟩
 have dp:=derP_pb pb
 have s1 : SB 19 [(1 : Rat)]:=sb_int (N:=1) (bdl_of (by decide) fun i hi => by
   have : i = 0:=by simpa using hi
   subst this
   exact bd_int (n:=1) (by decide)) (by decide)
 have s46:=s1.mono (show 19 <= 46 by decide)
 have ld:=dp.l
 obtain ⟨k,f,hk1,_,hA,hS,hT,hL,hM⟩:=chain (cap:=320) (e:=46) (by decide) one_lst (by decide) s46 (by decide) 9 (gok_sqf _ (by omega) _ (by omega)) h.w (sb_pb (a:=19) dp (by decide) (by decide)) w2 dp.t (by omega) (by omega) (scal_refl _) (scal_refl _) s46 s46
 have ef:=coprime (N:=D.length + 1) h.s (fun a m ha => by
  rw [hv_ext (cf_derP (wL D))]
  exact (roots D h.s h.t h.d h.p a m ha).2.1) (by rw [derP_len]; omega) hA hT hM
 subst ef
 exact ⟨k,hk1⟩
end Ab
end
section
open Go Go.Proofs
namespace Ab
set_option maxRecDepth 100000
set_option maxHeartbeats 1000000
theorem bools_cvs {ρ : Nat -> Nat} {ks : List Nat} {n : Nat} {h : Nat -> Option Blk} {α : Type} {f : α -> Bool} : ∀ (l : List α),cvs ρ ks n h (l.map fun x => AV.bool (f x)) (l.map fun x => AV.bool (f x))
 | [] => by unfold cvs; rfl
 | x :: l => by
  rw [List.map_cons]
  unfold cvs
  exact ⟨_,_,rfl,by unfold cv; rfl,bools_cvs l⟩
theorem bools_ones {α : Type} {f : α -> Bool} : ∀ (l : List α),ones (l.map fun x => AV.bool (f x)) = true
 | [] => rfl
 | x :: l => by rw [List.map_cons]; exact bools_ones l
theorem rdS {row : List AV} {o : Nat} {b : Bool} {K : AV -> Prop} (h : row[o]? = some (.bool b)) (a : K (.bool b)) : (match (generalizing:=false) nth row o with | some v => force v K | none => False):=by rw [nth_eq,h]; exact a
def seenL (D : List (Int × Nat)) : List AV:=(List.range 19).map fun j => AV.bool (decide (((j : Nat) : Int) - 9 ∈ kys D))
theorem seen_len (D : List (Int × Nat)) : (seenL D).length = 19:=by simp [seenL]
theorem seen_at {D : List (Int × Nat)} {n : Int} {b : Bool} (h0 : 0 <= n) (h : n < 19) (hb : decide (n - 9 ∈ kys D) = b) : (seenL D)[0 + n.toNat * 1]? = some (.bool b):=by
 unfold seenL
 rw [Nat.zero_add,Nat.mul_one,List.getElem?_map,List.getElem?_range (by omega)]
 show some (AV.bool (decide (((n.toNat : Nat) : Int) - 9 ∈ kys D))) = _
 rw [Int.toNat_of_nonneg h0,hb]
theorem seen_set {D E : List (Int × Nat)} {n : Int} (h0 : 0 <= n) (h1 : n - 9 ∈ kys E) (h2 : ∀ a,a ≠ n - 9 -> (a ∈ kys E ↔ a ∈ kys D)) : (seenL D).set (0 + n.toNat * 1) (.bool true) = seenL E:=by
 unfold seenL
 rw [Nat.zero_add,Nat.mul_one]
 apply List.ext_getElem
 ·simp
 ·intro i h3 h4
  simp only [List.length_set,List.length_map,List.length_range] at h3
  simp only [List.getElem_set,List.getElem_map,List.getElem_range]
  by_cases e : n.toNat = i
  ·rw [if_pos e]
   have : ((i : Nat) : Int) - 9 = n - 9:=by omega
   rw [this,decide_eq_true h1]
  ·rw [if_neg e]
   congr 1
   rw [decide_eq_decide]
   exact (h2 _ (by omega)).symm
def incN (a : Int) (D : List (Int × Nat)) : Nat -> List (Int × Nat)
 | 0 => D
 | j + 1 => inc a (incN a D j)
theorem incN_k (a : Int) (D : List (Int × Nat)) : ∀ j,kys (incN a D (j + 1)) = if a ∈ kys D then kys D else kys D ++ [a]
 | 0 => inc_k a D
 | j + 1 => by
  show kys (inc a (incN a D (j + 1))) = _
  have ih:=incN_k a D j
  rw [inc_k,ih]
  by_cases h : a ∈ kys D
  ·rw [if_pos h,if_pos h]
  ·rw [if_neg h,if_pos (by simp)]
theorem incN_w (a : Int) (D : List (Int × Nat)) : ∀ j,wL (incN a D (j + 1)) = wL (inc a D)
 | 0 => rfl
 | j + 1 => by
  show wL (inc a (incN a D (j + 1))) = _
  rw [inc_w a _ (by rw [incN_k]; split <;> simp_all),incN_w a D j]
theorem incN_len (a : Int) (D : List (Int × Nat)) (j : Nat) : (incN a D j).length <= D.length + 1:=by
 cases j with
 | zero => exact Nat.le_succ _
 | succ j =>
  have:=congrArg List.length (incN_k a D j)
  simp only [List.length_map] at this
  rw [this]
  split <;> simp
theorem incN_tot (a : Int) (D : List (Int × Nat)) : ∀ j,tot (incN a D j) = tot D + j
 | 0 => rfl
 | j + 1 => by show tot (inc a _) = _; rw [inc_tot,incN_tot a D j]; omega
theorem incN_pos (a : Int) (D : List (Int × Nat)) (h : ∀ x ∈ D,1 <= x.2) : ∀ j,∀ x ∈ incN a D j,1 <= x.2
 | 0 => h
 | j + 1 => inc_pos a _ (incN_pos a D h j)
theorem incN_small {a : Int} {D : List (Int × Nat)} (h : Small D) (ha : a.natAbs <= 9) (j : Nat) : Small (incN a D j):=by
 cases j with
 | zero => exact h
 | succ j =>
  intro x hx
  have hk : x.1 ∈ kys (incN a D (j + 1)):=List.mem_map.2 ⟨x,hx,rfl⟩
  rw [incN_k] at hk
  have hD : x.1 ∈ kys D -> x.1.natAbs <= 9:=fun h2 => by
   obtain ⟨y,hy,e⟩:=List.mem_map.1 h2
   rw [<- e]; exact h y hy
  split at hk
  ·exact hD hk
  ·rcases List.mem_append.1 hk with hk | hk
   ·exact hD hk
   ·rw [List.mem_singleton.1 hk]; exact ha
theorem incN_nd {a : Int} {D : List (Int × Nat)} (h : (kys D).Nodup) (j : Nat) : (kys (incN a D j)).Nodup:=by
 cases j with
 | zero => exact h
 | succ j =>
  rw [incN_k]
  split
  ·exact h
  ·rename_i hn
   refine List.nodup_append.2 ⟨h,by simp,?_⟩
   intro x hx y hy e
   rw [List.mem_singleton.1 hy] at e
   exact hn (e ▸ hx)
structure Sq (D : List (Int × Nat)) (i : Nat) : Prop where
 s : Small D
 t : tot D <= 3 * i
 l : D.length <= i
 d : (kys D).Nodup
 p : ∀ x ∈ D,1 <= x.2
theorem Sq.ok {D : List (Int × Nat)} {i : Nat} (h : Sq D i) (hi : i <= 4) : SqOk D:=⟨h.s,by have:=h.t; omega,by have:=h.l; omega,h.d,h.p⟩
theorem Sq.inc {D : List (Int × Nat)} {i j : Nat} {a : Int} (h : Sq D i) (ha : a.natAbs <= 9) (hj : j <= 3) : Sq (incN a D j) (i + 1) :=
 ⟨incN_small h.s ha j,by rw [incN_tot]; have:=h.t; omega,by have:=incN_len a D j; have:=h.l; omega,incN_nd h.d j,incN_pos a D h.p j⟩
section
variable {c : Rat} (c0 : c ≠ 0) (bc : Bd 1 50 c)
include c0 bc
theorem PD_inc {D : List (Int × Nat)} {a : Int} (h : SqOk D) (h' : SqOk (inc a D)) : mulP (PD c D) (lin a) = PD c (inc a D):=by
 refine lst_ext (mulP_lst (PD_lst h c0 bc) (lin_lst a)) (PD_lst h' c0 bc) fun i => ?_
 rw [cf_mulP,PD_cf h' c,pF_inc]
 exact cnv_congr (PD_cf h c) fun _ => rfl
theorem PD_nil : PD c [] = [c]:=by
 have h : SqOk []:=⟨fun x hx => (by cases hx),by decide,by decide,List.nodup_nil,fun x hx => (by cases hx)⟩
 refine lst_ext (PD_lst h c0 bc) (lst_of fun k hk => ?_) fun i => PD_cf h c i
 have : k = 0:=by simpa using hk.symm
 subst this
 exact c0
end
theorem lin_sb {a : Int} (ha : a.natAbs <= 9) : SB 6 (lin a):=sb_int (lin_bd (by omega)) (by decide)
theorem mul_lin {p : List Rat} {s : Nat} {a : Int} (hp : SB s p) (hs : s <= 100) (tp : Lst p) (lp : p.length <= 20) (ha : a.natAbs <= 9) : Spec Tryz.prog [] 16 [polyV p,polyV (lin a)] (.tup [polyV (mulP p (lin a)),.int .i64 0]) :=
 Mul_sb [] hp (lin_sb ha) tp (lin_lst a) (by omega) (by rw [lin_len]; decide) (by rw [lin_len]; omega) (by omega)
def U8 (x : Int) : Prop:=0 <= x ∧ x <= 255
theorem sqf_law (l : List Int) (_hl : l.length <= maxLen) (il : ∀ x ∈ l,I64 x) (m : List Int) (_hm : m.length <= maxLen) (im : ∀ x ∈ m,U8 x) (n : Int) (wn : (Lit.int .i64 n).wf = true) :
  Spec Tryz.prog [] 8 [.sl (irows .i64 l),.sl (irows .u8 m),.int .i64 n] (.bool true):=by
 have hn : I64 n:=by
  simp only [Lit.wf,Bool.and_eq_true,decide_eq_true_eq] at wn
  exact wn
 have ll : (((irows .i64 l).length : Nat) : Int) = l.length:=by rw [irows_len]
 have lm : (((irows .u8 m).length : Nat) : Int) = m.length:=by rw [irows_len]
 have b1:=pickU_bd (x:=n) (n:=50) (by decide)
 have pk:=pick_uni [] (x:=n) (n:=50) hn.1 hn.2 (by decide)
 have w1 : w64 (1 + pickU n 50) = 1 + pickU n 50:=w64_eq (by omega)
 have nm:=number_spec [] (n:=1 + pickU n 50) (by omega) (by omega)
 have n1:=number_spec [] (n:=1) (by omega) (by omega)
 rw [<- w1] at nm
 have bc : Bd 1 50 ((w64 (1 + pickU n 50) : Int) : Rat):=bd_int (by omega)
 have c0 : ((w64 (1 + pickU n 50) : Int) : Rat) ≠ 0:=fun e => by
  have:=Rat.intCast_inj.1 (e.trans Rat.intCast_zero.symm)
  omega
 generalize ((w64 (1 + pickU n 50) : Int) : Rat) = c at nm bc c0
 unfold rV rv at nm n1
 refine spec_fn T_ok mixed_ok 0 Tryz.func8 fn_ok8 (by kernel_rfl) ?_
 first | refine Exists.intro _ (And.intro (sane_spec) ?_) | refine Hn_by (Exists.intro _ (And.intro (sane_spec) ?_))
 repeat (first | refine gT ?_ | refine gF ?_ | refine brT ?_ | refine brF ?_)
 first | refine Exists.intro _ (And.intro (pk) ?_) | refine Hn_by (Exists.intro _ (And.intro (pk) ?_))
 first | refine Exists.intro _ (And.intro (nm) ?_) | refine Hn_by (Exists.intro _ (And.intro (nm) ?_))
 first | refine Exists.intro _ (And.intro (n1) ?_) | refine Hn_by (Exists.intro _ (And.intro (n1) ?_))
 refine aw_loopN 3 (fun x : Nat × List (Int × Nat) => stOf [(0,.sl (irows .i64 l)),(1,.sl (irows .u8 m)),(7,polyV (PD c x.2)),(8,polyV (wL x.2)),(9,.bp 2 0),(10,.int .i64 (x.1 : Int))] [(2,.box (seenL x.2))] 3) (fun x => x.1 <= 4 ∧ Sq x.2 x.1) (fun x => 4 - x.1) (0,[]) ⟨by decide,fun x hx => (by cases hx),Nat.le_refl _,Nat.le_refl _,List.nodup_nil,fun x hx => (by cases hx)⟩
  (leR_by [] [0,1] rfl rfl (Nat.le_refl _) ⟨.inl rfl,.inl rfl,.inr (.inr ⟨0,0,1,_,_,_,rfl,by decide,rfl,Nat.le_refl 1,by rw [PD_nil c0 bc]; rfl⟩),.inr (.inr ⟨1,0,1,_,_,_,rfl,by decide,rfl,Nat.le_refl 1,rfl⟩),⟨by decide,rfl⟩,rfl,trivial⟩ ⟨⟨rfl,bools_ones _,seenL [],by kernel_rfl,bools_cvs _⟩,trivial⟩) (by kernel_rfl) ?_
 rintro ⟨i,D⟩ ⟨hi,hD⟩ P hP
 dsimp only at hi hD
 refine br (fun g => ?_) (fun g => ?_)
 ·have g : i < l.length:=by have : (i : Int) < ((irows .i64 l).length : Int):=g; omega
  repeat (first | refine gT ?_ | refine gF ?_ | refine brT ?_ | refine brF ?_)
  refine br (fun g2 => ?_) (fun g2 => ?_)
  ·have g2 : i < 4:=Int.ofNat_lt.1 g2
   obtain ⟨x,hx⟩ : ∃ x,l[i]? = some x:=⟨l[i],List.getElem?_eq_getElem g⟩
   have ix:=il x (List.mem_of_getElem? hx)
   have pk:=pick_uni [] (x:=x) (n:=19) ix.1 ix.2 (by decide)
   have bd:=pickU_bd (x:=x) (n:=19) (by decide)
   have n0:=bd.1
   obtain ⟨a,hea⟩ : ∃ a,a = pickU x 19 - 9:=⟨_,rfl⟩
   have ha9 : a.natAbs <= 9:=by omega
   have hwa : w64 (pickU x 19 - 9) = a:=by rw [w64_eq (by omega),hea]
   have hw : w64 ((i : Int) + 1) = ((i + 1 : Nat) : Int):=w64_nat (by omega) (by omega)
   refine And.intro (Int.natCast_nonneg i) (Exists.intro _ (And.intro (nat_at (irows_at hx)) ?_))
   first | refine Exists.intro _ (And.intro (pk) ?_) | refine Hn_by (Exists.intro _ (And.intro (pk) ?_))
   refine br (fun g4 => ?_) (fun g4 => ?_)
   ·have g4 : i < m.length:=by have : (i : Int) < ((irows .u8 m).length : Int):=g4; omega
    obtain ⟨y,hy⟩ : ∃ y,m[i]? = some y:=⟨m[i],List.getElem?_eq_getElem g4⟩
    have iy:=im y (List.mem_of_getElem? hy)
    refine And.intro (Int.natCast_nonneg i) (Exists.intro _ (And.intro (nat_at (irows_at hy)) ?_))
    refine And.intro (by decide) ?_
    have hK : ∃ kk : Nat,w64 (1 + (w64 y).tmod 3) = (kk : Int) ∧ 1 <= kk ∧ kk <= 3:=by
     unfold U8 at iy
     have e1 : w64 y = y:=w64_eq (by omega)
     have e2 : y.tmod 3 = y % 3:=Int.tmod_eq_emod_of_nonneg iy.1
     have e3 : w64 (1 + y % 3) = 1 + y % 3:=w64_eq (by omega)
     rw [e1,e2,e3]
     exact ⟨(1 + y % 3).toNat,by omega,by omega,by omega⟩
    obtain ⟨kk,hkk,h1,h3⟩ : ∃ kk : Nat,w64 (1 + (w64 y).tmod 3) = (kk : Int) ∧ 1 <= kk ∧ kk <= 3:=hK
    have hset : (seenL D).set (0 + (pickU x 19).toNat * 1) (.bool true) = seenL (incN a D kk):=by
     obtain ⟨k',rfl⟩ : ∃ k',kk = k' + 1:=⟨kk - 1,by omega⟩
     have hk:=incN_k a D k'
     refine seen_set n0 (by rw [<- hea,hk]; split <;> first | assumption | simp) fun b hb => ?_
     rw [<- hea] at hb
     rw [hk]
     split
     ·exact Iff.rfl
     ·rw [List.mem_append,List.mem_singleton]
      exact ⟨fun h => h.resolve_right hb,.inl⟩
    refine aw_loopN 3 (fun j : Nat => stOf [(0,.sl (irows .i64 l)),(1,.sl (irows .u8 m)),(7,polyV (PD c (incN a D j))),(8,polyV (wL D)),(9,.bp 2 0),(10,.int .i64 (i : Int)),(11,.int .i64 (pickU x 19)),(12,.int .i64 (kk : Int)),(13,.int .i64 (j : Int))] [(2,.box (seenL D))] 3) (fun j => j <= kk) (fun j => kk - j) 0 (Nat.zero_le _)
     (.inl (le_by ⟨rfl,rfl,rfl,rfl,rfl,rfl,rfl,int_eq hkk,rfl,trivial⟩ ⟨rfl,trivial⟩ (Nat.le_refl _))) (by kernel_rfl) ?_
    intro j hj P2 hP2
    refine br (fun g3 => ?_) (fun g3 => ?_)
    ·have g3 : j < kk:=Int.ofNat_lt.1 g3
     have o1 : SqOk (incN a D j):=(hD.inc ha9 (by omega)).ok (by omega)
     have o2 : SqOk (inc a (incN a D j)):=(hD.inc (j:=j + 1) ha9 (by omega)).ok (by omega)
     have mu:=mul_lin (PD_sb o1 c0 bc) (by decide) (PD_lst o1 c0 bc) (by rw [PD_len o1 c0 bc]; have:=o1.t; omega) ha9
     rw [PD_inc c0 bc o1 o2] at mu
     have ln:=lin_spec [] (n:=a) (by omega) (by omega)
     rw [<- hwa] at ln
     first | refine Exists.intro _ (And.intro (ln) ?_) | refine Hn_by (Exists.intro _ (And.intro (ln) ?_))
     rw [hwa]
     first | refine Exists.intro _ (And.intro (mu) ?_) | refine Hn_by (Exists.intro _ (And.intro (mu) ?_))
     refine hP2 (j + 1) _ (.inl (le_by ⟨rfl,rfl,rfl,rfl,rfl,rfl,rfl,rfl,int_eq (show w64 ((j : Int) + 1) = _ from w64_nat (by omega) (by omega)),trivial⟩ ⟨rfl,trivial⟩ (Nat.le_refl _))) g3 (by omega)
    ·have g3 : ¬ j < kk:=fun h => g3 (Int.ofNat_lt.2 h)
     have ej : kk = j:=by omega
     subst ej
     clear hP2
     refine And.intro n0 (And.intro (show pickU x 19 < ((19 : Nat) : Int) by omega) ?_)
     by_cases hm : a ∈ kys D
     ·refine rdS (seen_at n0 (by omega) (decide_eq_true (hea ▸ hm))) ?_
      repeat (first | refine gT ?_ | refine gF ?_ | refine brT ?_ | refine brF ?_)
      have ew : wL D = wL (incN a D kk):=by
       obtain ⟨k',ek⟩ : ∃ k',kk = k' + 1:=⟨kk - 1,by omega⟩
       rw [ek]
       rw [incN_w,inc_w a D hm]
      refine And.intro n0 (And.intro (show pickU x 19 < ((19 : Nat) : Int) by omega) ?_)
      refine mT (show Nat.ble ((0 + (pickU x 19).toNat * 1) + 1) (lenL (seenL D)) = true from ble_len (by rw [seen_len]; omega)) ?_
      refine forceL_by (set_app (0 + (pickU x 19).toNat * 1) (seenL D) (.bool true) (by rw [seen_len]; omega)) ?_
      refine hP (i + 1,incN a D kk) _ (.inl (le_by ⟨rfl,rfl,rfl,(show polyV (wL D) = polyV (wL (incN a D kk)) by rw [ew]),rfl,int_eq hw,trivial⟩ ⟨(show some (Blk.box ((seenL D).set (0 + (pickU x 19).toNat * 1) (.bool true))) = some (Blk.box (seenL (incN a D kk))) by rw [hset]),trivial⟩ (Nat.le_refl _))) ⟨by omega,hD.inc ha9 h3⟩ (by show 4 - (i + 1) < 4 - i; omega)
     ·refine rdS (seen_at n0 (by omega) (decide_eq_false (hea ▸ hm))) ?_
      repeat (first | refine gT ?_ | refine gF ?_ | refine brT ?_ | refine brF ?_)
      have ew : mulP (wL D) (lin a) = wL (incN a D kk):=by
       obtain ⟨k',ek⟩ : ∃ k',kk = k' + 1:=⟨kk - 1,by omega⟩
       rw [ek,incN_w]
       have o1 : SqOk (inc a D):=(hD.inc (j:=1) ha9 (by omega)).ok (by omega)
       refine lst_ext (mulP_lst (wL_ok D hD.s).2.1 (lin_lst a)) (wL_ok _ o1.s).2.1 fun i => ?_
       rw [cf_mulP,inc_w2 a D hm]
      have mu:=mul_lin (hD.ok (by omega)).w (by decide) (wL_ok D hD.s).2.1 (by rw [(wL_ok D hD.s).1]; have:=hD.l; omega) ha9
      have ln:=lin_spec [] (n:=a) (by omega) (by omega)
      rw [<- hwa] at ln
      rw [ew] at mu
      first | refine Exists.intro _ (And.intro (ln) ?_) | refine Hn_by (Exists.intro _ (And.intro (ln) ?_))
      rw [hwa]
      first | refine Exists.intro _ (And.intro (mu) ?_) | refine Hn_by (Exists.intro _ (And.intro (mu) ?_))
      refine And.intro n0 (And.intro (show pickU x 19 < ((19 : Nat) : Int) by omega) ?_)
      refine mT (show Nat.ble ((0 + (pickU x 19).toNat * 1) + 1) (lenL (seenL D)) = true from ble_len (by rw [seen_len]; omega)) ?_
      refine forceL_by (set_app (0 + (pickU x 19).toNat * 1) (seenL D) (.bool true) (by rw [seen_len]; omega)) ?_
      refine hP (i + 1,incN a D kk) _ (.inl (le_by ⟨rfl,rfl,rfl,rfl,rfl,int_eq hw,trivial⟩ ⟨(show some (Blk.box ((seenL D).set (0 + (pickU x 19).toNat * 1) (.bool true))) = some (Blk.box (seenL (incN a D kk))) by rw [hset]),trivial⟩ (Nat.le_refl _))) ⟨by omega,hD.inc ha9 h3⟩ (by show 4 - (i + 1) < 4 - i; omega)
   ·have hK : ∃ kk : Nat,(1 : Int) = (kk : Int) ∧ 1 <= kk ∧ kk <= 3:=⟨1,rfl,by decide,by decide⟩
    obtain ⟨kk,hkk,h1,h3⟩ : ∃ kk : Nat,(1 : Int) = (kk : Int) ∧ 1 <= kk ∧ kk <= 3:=hK
    have hset : (seenL D).set (0 + (pickU x 19).toNat * 1) (.bool true) = seenL (incN a D kk):=by
     obtain ⟨k',rfl⟩ : ∃ k',kk = k' + 1:=⟨kk - 1,by omega⟩
     have hk:=incN_k a D k'
     refine seen_set n0 (by rw [<- hea,hk]; split <;> first | assumption | simp) fun b hb => ?_
     rw [<- hea] at hb
     rw [hk]
     split
     ·exact Iff.rfl
     ·rw [List.mem_append,List.mem_singleton]
      exact ⟨fun h => h.resolve_right hb,.inl⟩
    refine aw_loopN 3 (fun j : Nat => stOf [(0,.sl (irows .i64 l)),(1,.sl (irows .u8 m)),(7,polyV (PD c (incN a D j))),(8,polyV (wL D)),(9,.bp 2 0),(10,.int .i64 (i : Int)),(11,.int .i64 (pickU x 19)),(12,.int .i64 (kk : Int)),(13,.int .i64 (j : Int))] [(2,.box (seenL D))] 3) (fun j => j <= kk) (fun j => kk - j) 0 (Nat.zero_le _)
     (.inl (le_by ⟨rfl,rfl,rfl,rfl,rfl,rfl,rfl,int_eq hkk,rfl,trivial⟩ ⟨rfl,trivial⟩ (Nat.le_refl _))) (by kernel_rfl) ?_
    intro j hj P2 hP2
    refine br (fun g3 => ?_) (fun g3 => ?_)
    ·have g3 : j < kk:=Int.ofNat_lt.1 g3
     have o1 : SqOk (incN a D j):=(hD.inc ha9 (by omega)).ok (by omega)
     have o2 : SqOk (inc a (incN a D j)):=(hD.inc (j:=j + 1) ha9 (by omega)).ok (by omega)
     have mu:=mul_lin (PD_sb o1 c0 bc) (by decide) (PD_lst o1 c0 bc) (by rw [PD_len o1 c0 bc]; have:=o1.t; omega) ha9
     rw [PD_inc c0 bc o1 o2] at mu
     have ln:=lin_spec [] (n:=a) (by omega) (by omega)
     rw [<- hwa] at ln
     first | refine Exists.intro _ (And.intro (ln) ?_) | refine Hn_by (Exists.intro _ (And.intro (ln) ?_))
     rw [hwa]
     first | refine Exists.intro _ (And.intro (mu) ?_) | refine Hn_by (Exists.intro _ (And.intro (mu) ?_))
     refine hP2 (j + 1) _ (.inl (le_by ⟨rfl,rfl,rfl,rfl,rfl,rfl,rfl,rfl,int_eq (show w64 ((j : Int) + 1) = _ from w64_nat (by omega) (by omega)),trivial⟩ ⟨rfl,trivial⟩ (Nat.le_refl _))) g3 (by omega)
    ·have g3 : ¬ j < kk:=fun h => g3 (Int.ofNat_lt.2 h)
     have ej : kk = j:=by omega
     subst ej
     clear hP2
     refine And.intro n0 (And.intro (show pickU x 19 < ((19 : Nat) : Int) by omega) ?_)
     by_cases hm : a ∈ kys D
     ·refine rdS (seen_at n0 (by omega) (decide_eq_true (hea ▸ hm))) ?_
      repeat (first | refine gT ?_ | refine gF ?_ | refine brT ?_ | refine brF ?_)
      have ew : wL D = wL (incN a D kk):=by
       obtain ⟨k',ek⟩ : ∃ k',kk = k' + 1:=⟨kk - 1,by omega⟩
       rw [ek]
       rw [incN_w,inc_w a D hm]
      refine And.intro n0 (And.intro (show pickU x 19 < ((19 : Nat) : Int) by omega) ?_)
      refine mT (show Nat.ble ((0 + (pickU x 19).toNat * 1) + 1) (lenL (seenL D)) = true from ble_len (by rw [seen_len]; omega)) ?_
      refine forceL_by (set_app (0 + (pickU x 19).toNat * 1) (seenL D) (.bool true) (by rw [seen_len]; omega)) ?_
      refine hP (i + 1,incN a D kk) _ (.inl (le_by ⟨rfl,rfl,rfl,(show polyV (wL D) = polyV (wL (incN a D kk)) by rw [ew]),rfl,int_eq hw,trivial⟩ ⟨(show some (Blk.box ((seenL D).set (0 + (pickU x 19).toNat * 1) (.bool true))) = some (Blk.box (seenL (incN a D kk))) by rw [hset]),trivial⟩ (Nat.le_refl _))) ⟨by omega,hD.inc ha9 h3⟩ (by show 4 - (i + 1) < 4 - i; omega)
     ·refine rdS (seen_at n0 (by omega) (decide_eq_false (hea ▸ hm))) ?_
      repeat (first | refine gT ?_ | refine gF ?_ | refine brT ?_ | refine brF ?_)
      have ew : mulP (wL D) (lin a) = wL (incN a D kk):=by
       obtain ⟨k',ek⟩ : ∃ k',kk = k' + 1:=⟨kk - 1,by omega⟩
       rw [ek,incN_w]
       have o1 : SqOk (inc a D):=(hD.inc (j:=1) ha9 (by omega)).ok (by omega)
       refine lst_ext (mulP_lst (wL_ok D hD.s).2.1 (lin_lst a)) (wL_ok _ o1.s).2.1 fun i => ?_
       rw [cf_mulP,inc_w2 a D hm]
      have mu:=mul_lin (hD.ok (by omega)).w (by decide) (wL_ok D hD.s).2.1 (by rw [(wL_ok D hD.s).1]; have:=hD.l; omega) ha9
      have ln:=lin_spec [] (n:=a) (by omega) (by omega)
      rw [<- hwa] at ln
      rw [ew] at mu
      first | refine Exists.intro _ (And.intro (ln) ?_) | refine Hn_by (Exists.intro _ (And.intro (ln) ?_))
      rw [hwa]
      first | refine Exists.intro _ (And.intro (mu) ?_) | refine Hn_by (Exists.intro _ (And.intro (mu) ?_))
      refine And.intro n0 (And.intro (show pickU x 19 < ((19 : Nat) : Int) by omega) ?_)
      refine mT (show Nat.ble ((0 + (pickU x 19).toNat * 1) + 1) (lenL (seenL D)) = true from ble_len (by rw [seen_len]; omega)) ?_
      refine forceL_by (set_app (0 + (pickU x 19).toNat * 1) (seenL D) (.bool true) (by rw [seen_len]; omega)) ?_
      refine hP (i + 1,incN a D kk) _ (.inl (le_by ⟨rfl,rfl,rfl,rfl,rfl,int_eq hw,trivial⟩ ⟨(show some (Blk.box ((seenL D).set (0 + (pickU x 19).toNat * 1) (.bool true))) = some (Blk.box (seenL (incN a D kk))) by rw [hset]),trivial⟩ (Nat.le_refl _))) ⟨by omega,hD.inc ha9 h3⟩ (by show 4 - (i + 1) < 4 - i; omega)
  ·repeat (first | refine gT ?_ | refine gF ?_ | refine brT ?_ | refine brF ?_)
   have ok:=hD.ok hi
   have sq:=sqf_spec ok c0 bc
   obtain ⟨w1,w2,w3⟩:=wL_ok D hD.s
   have pb : PB 1 (10 ^ 4) 5 (wL D):=⟨fun i => (w3 i).mono (pow10 ok.l),w2,by have:=ok.l; omega⟩
   have de:=Der_pb [] pb (by decide) (by decide +kernel)
   have dp:=derP_pb pb
   obtain ⟨n2,hn2⟩:=sqf_gcd ok
   have gc:=GCD_spec [] (pb.poly (by decide +kernel) (by decide)) (dp.poly (by decide +kernel) (by decide)) hn2
   have sm:=Same_eq [] pb (by decide +kernel) (by decide) (q:=wL D) rfl
   have sn:=Squarefree_nil []
   clear hP
   generalize wL D = W at *
   generalize PD c D = P at *
   first | refine Exists.intro _ (And.intro (sq) ?_) | refine Hn_by (Exists.intro _ (And.intro (sq) ?_))
   first | refine Exists.intro _ (And.intro (de) ?_) | refine Hn_by (Exists.intro _ (And.intro (de) ?_))
   first | refine Exists.intro _ (And.intro (gc) ?_) | refine Hn_by (Exists.intro _ (And.intro (gc) ?_))
   first | refine Exists.intro _ (And.intro (sn) ?_) | refine Hn_by (Exists.intro _ (And.intro (sn) ?_))
   repeat (first | refine gT ?_ | refine gF ?_ | refine brT ?_ | refine brF ?_)
   first | refine Exists.intro _ (And.intro (sm) ?_) | refine Hn_by (Exists.intro _ (And.intro (sm) ?_))
   repeat (first | refine gT ?_ | refine gF ?_ | refine brT ?_ | refine brF ?_)
   exact And.intro (Or.inr rfl) rfl
 ·repeat (first | refine gT ?_ | refine gF ?_ | refine brT ?_ | refine brF ?_)
  have ok:=hD.ok hi
  have sq:=sqf_spec ok c0 bc
  obtain ⟨w1,w2,w3⟩:=wL_ok D hD.s
  have pb : PB 1 (10 ^ 4) 5 (wL D):=⟨fun i => (w3 i).mono (pow10 ok.l),w2,by have:=ok.l; omega⟩
  have de:=Der_pb [] pb (by decide) (by decide +kernel)
  have dp:=derP_pb pb
  obtain ⟨n2,hn2⟩:=sqf_gcd ok
  have gc:=GCD_spec [] (pb.poly (by decide +kernel) (by decide)) (dp.poly (by decide +kernel) (by decide)) hn2
  have sm:=Same_eq [] pb (by decide +kernel) (by decide) (q:=wL D) rfl
  have sn:=Squarefree_nil []
  clear hP
  generalize wL D = W at *
  generalize PD c D = P at *
  first | refine Exists.intro _ (And.intro (sq) ?_) | refine Hn_by (Exists.intro _ (And.intro (sq) ?_))
  first | refine Exists.intro _ (And.intro (de) ?_) | refine Hn_by (Exists.intro _ (And.intro (de) ?_))
  first | refine Exists.intro _ (And.intro (gc) ?_) | refine Hn_by (Exists.intro _ (And.intro (gc) ?_))
  first | refine Exists.intro _ (And.intro (sn) ?_) | refine Hn_by (Exists.intro _ (And.intro (sn) ?_))
  repeat (first | refine gT ?_ | refine gF ?_ | refine brT ?_ | refine brF ?_)
  first | refine Exists.intro _ (And.intro (sm) ?_) | refine Hn_by (Exists.intro _ (And.intro (sm) ?_))
  repeat (first | refine gT ?_ | refine gF ?_ | refine brT ?_ | refine brF ?_)
  exact And.intro (Or.inr rfl) rfl
end Ab
end
