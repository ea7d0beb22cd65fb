import Derived.Test.YtpjjbhhoagocjaaGreatDoorXGd
open Go
namespace Ab
def stOf (l : List (Nat × AV)) (hp : List (Nat × Blk)) (nx : Nat) : St:=⟨fun k => (look l k).getD .undef,fun k => look hp k,nx⟩
theorem aw_loopC {T : List (Nat × TyI)} {gl : List (Nat × AV)} {HD H : Tg -> List AV -> St -> (AV -> St -> Prop) -> Prop} {G : FuncId -> List AV -> St -> (List AV -> St -> (St -> Prop) -> Prop) -> (St -> Prop) -> Prop} {c : Code} {s : St} {Q : Exit -> St -> Prop} {ι : Type} (S : ι -> St) (pre : ι -> Prop) (μ : ι -> Nat) (x0 : ι) (h0 : pre x0) (hl : LeL s.nx (S x0) s)
  (round : ∀ x,pre x -> ∀ P : St -> Prop,(∀ y s',LeL s.nx (S y) s' -> pre y -> μ y < μ x -> P s') -> awC T gl HD H G c (S x) fun e s' => match e with | .normal => P s' | e => Q e s') : awC T gl HD H G (.loop c) s Q:=by
 classical
 unfold awC
 let I : St -> Prop:=fun s' => ∃ n x,pre x∧s' = S x∧μ x = n
 let ν : St -> Nat:=fun s' => if hI : ∃ n x,pre x∧s' = S x∧μ x = n then Classical.choose (exists_least (fun n => ∃ x,pre x∧s' = S x∧μ x = n) hI) else 0
 refine ⟨I,ν,⟨S x0,hl,_,x0,h0,rfl,rfl⟩,fun s' hI => ?_⟩
 have hs:=Classical.choose_spec (exists_least (fun n => ∃ x,pre x∧s' = S x∧μ x = n) hI)
 have hν : ν s' = Classical.choose (exists_least (fun n => ∃ x,pre x∧s' = S x∧μ x = n) hI):=dif_pos hI
 rw [hν]
 generalize Classical.choose (exists_least (fun n => ∃ x,pre x∧s' = S x∧μ x = n) hI) = n at hs
 obtain ⟨⟨x,hp,rfl,rfl⟩,_⟩:=hs
 refine round x hp (fun s'' => ∃ s0,LeL s.nx s0 s''∧I s0∧ν s0 < μ x) fun y s'' hle hpy hlt => ?_
 refine ⟨S y,hle,⟨_,y,hpy,rfl,rfl⟩,?_⟩
 have hI2 : ∃ n z,pre z∧S y = S z∧μ z = n:=⟨_,y,hpy,rfl,rfl⟩
 have hν2 : ν (S y) = Classical.choose (exists_least (fun n => ∃ z,pre z∧S y = S z∧μ z = n) hI2):=dif_pos hI2
 rw [hν2]
 exact Nat.lt_of_le_of_lt ((Classical.choose_spec (exists_least (fun n => ∃ z,pre z∧S y = S z∧μ z = n) hI2)).2 _ ⟨y,hpy,rfl,rfl⟩) hlt
theorem aw_loopN {T : List (Nat × TyI)} {gl : List (Nat × AV)} {HD H : Tg -> List AV -> St -> (AV -> St -> Prop) -> Prop} {G : FuncId -> List AV -> St -> (List AV -> St -> (St -> Prop) -> Prop) -> (St -> Prop) -> Prop} {c : Code} {s : St} {Q : Exit -> St -> Prop} {ι : Type} (n : Nat) (S : ι -> St) (pre : ι -> Prop) (μ : ι -> Nat) (x0 : ι) (h0 : pre x0) (hl : LeL n (S x0) s) (hn : s.nx = n)
  (round : ∀ x,pre x -> ∀ P : St -> Prop,(∀ y s',LeL n (S y) s' -> pre y -> μ y < μ x -> P s') -> awC T gl HD H G c (S x) fun e s' => match e with | .normal => P s' | e => Q e s') : awC T gl HD H G (.loop c) s Q:=by
 subst hn
 exact aw_loopC S pre μ x0 h0 hl round
theorem aw_loop {T : List (Nat × TyI)} {gl : List (Nat × AV)} {HD H : Tg -> List AV -> St -> (AV -> St -> Prop) -> Prop} {G : FuncId -> List AV -> St -> (List AV -> St -> (St -> Prop) -> Prop) -> (St -> Prop) -> Prop} {c : Code} {s : St} {Q : Exit -> St -> Prop} {ι : Type} (S : ι -> St) (pre : ι -> Prop) (μ : ι -> Nat) (x0 : ι) (h0 : pre x0) (hl : Le (S x0) s)
  (round : ∀ x,pre x -> ∀ P : St -> Prop,(∀ y s',Le (S y) s' -> pre y -> μ y < μ x -> P s') -> awC T gl HD H G c (S x) fun e s' => match e with | .normal => P s' | e => Q e s') : awC T gl HD H G (.loop c) s Q :=
 aw_loopC S pre μ x0 h0 (.inl hl) fun x hx P hP => round x hx P fun y s' hle => hP y s' (.inl hle)
theorem le_of {l : List (Nat × AV)} {hp : List (Nat × Blk)} {nx : Nat} {s : St} (h1 : ∀ p ∈ l,s.tm p.1 = p.2) (h2 : ∀ p ∈ hp,s.hp p.1 = some p.2) (h3 : s.nx <= nx) : Le (stOf l hp nx) s:=by
 refine ⟨fun t => ?_,fun k => ?_,h3⟩
 ·show (look l t).getD .undef = .undef ∨ (look l t).getD .undef = s.tm t
  induction l with
  | nil => exact .inl rfl
  | cons p l ih =>
   obtain ⟨j,v⟩:=p
   unfold look
   cases hb : Nat.beq t j with
   | true => right; rw [Nat.eq_of_beq_eq_true hb]; exact (h1 (j,v) (by simp)).symm
   | false => exact ih fun p hp => h1 p (by simp [hp])
 ·show look hp k = none ∨ look hp k = s.hp k
  induction hp with
  | nil => exact .inl rfl
  | cons p l ih =>
   obtain ⟨j,v⟩:=p
   unfold look
   cases hb : Nat.beq k j with
   | true => right; rw [Nat.eq_of_beq_eq_true hb]; exact (h2 (j,v) (by simp)).symm
   | false => exact ih fun p hp => h2 p (by simp [hp])
theorem spec_fn {P : Program} {T : List (Nat × TyI)} {gl : List (Nat × AV)} (hT : TOk P T) (hmo : P.follows .mixedOrders = true) (n : Nat) {f : FuncId} {fn : Func} {ds : List AV} {r : AV} (h1 : P.funcs[f]? = some fn) (h2 : fnOk P f fn = true) (hN : Nat.ble ds.length fn.ntmps = true)
  (hK : awC T gl (callX P gl (Hn P T gl n)) (Hn P T gl n) (Gn P T gl (Hn P T gl n)) (fn.body.getD .skip) ⟨tmOf ds,fun _ => none,0⟩ fun e s' => (e = .normal ∨ e = .ret)∧resA T s' fn.results.toList fun vs => toWR s'.hp (resV vs) fun d => d = r) : Spec P gl f ds r:=by
 obtain ⟨cd,g1,g2,g3,g4⟩:=fnOk_parts h2
 rw [g1] at hK
 exact spec_of hT hmo n h1 g1 g2 g3 hN g4 hK
theorem Hn_in {P : Program} {T : List (Nat × TyI)} {gl : List (Nat × AV)} {n : Nat} {f : FuncId} {args : List AV} {s : St} {K : AV -> St -> Prop} (fn : Func) (h1 : P.funcs[f]? = some fn) (h2 : fnOk P f fn = true) (hN : Nat.ble args.length fn.ntmps = true)
  (hK : awC T gl (callX P gl (Hn P T gl n)) (Hn P T gl n) (Gn P T gl (Hn P T gl n)) (fn.body.getD .skip) ⟨tmOf args,s.hp,s.nx⟩ fun e s' => (e = .normal ∨ e = .ret)∧resA T s' fn.results.toList fun vs => K (resV vs) ⟨s.tm,s'.hp,s'.nx⟩) : Hn P T gl (n + 1) (.fn f) args s K:=by
 obtain ⟨cd,g1,g2,g3,g4⟩:=fnOk_parts h2
 rw [g1] at hK
 exact .inr (.inl ⟨fn,cd,h1,g1,g2,g3,hN,g4,hK⟩)
theorem Hn_cut {P : Program} {T : List (Nat × TyI)} {gl : List (Nat × AV)} {n : Nat} {f : FuncId} {args : List AV} {s : St} {K : AV -> St -> Prop} (fn : Func) (h1 : P.funcs[f]? = some fn) (h2 : fnOk P f fn = true) (hN : Nat.ble args.length fn.ntmps = true)
  (hK : awC T gl (callX P gl (Hn P T gl n)) (Hn P T gl n) (Gn P T gl (Hn P T gl n)) (fn.body.getD .skip) ⟨tmOf args,s.hp,s.nx⟩ fun e s' => (e = .normal ∨ e = .ret)∧resA T s' fn.results.toList fun vs => bl s.nx (resV vs) = true∧clean s.nx s'.hp s.nx∧K (resV vs) ⟨s.tm,cutH s.nx s'.hp,s.nx⟩) : Hn P T gl (n + 1) (.fn f) args s K:=by
 obtain ⟨cd,g1,g2,g3,g4⟩:=fnOk_parts h2
 rw [g1] at hK
 exact .inr (.inr (.inl ⟨fn,cd,h1,g1,g2,g3,hN,g4,hK⟩))
theorem Hn_spc {P : Program} {T : List (Nat × TyI)} {gl : List (Nat × AV)} {n : Nat} {f : FuncId} {args : List AV} {s : St} {K : AV -> St -> Prop} (h : callB P f args s K) : Hn P T gl (n + 1) (.fn f) args s K:=.inr (.inr (.inr h))
theorem Hn_by {P : Program} {T : List (Nat × TyI)} {gl : List (Nat × AV)} {n : Nat} {f : FuncId} {args : List AV} {s : St} {K : AV -> St -> Prop} (h : callW P gl (.fn f) args s K) : Hn P T gl n (.fn f) args s K:=by
 cases n with
 | zero => exact h
 | succ n => exact .inl h
theorem Gn_in {P : Program} {T : List (Nat × TyI)} {gl : List (Nat × AV)} {H : Tg -> List AV -> St -> (AV -> St -> Prop) -> Prop} {f : FuncId} {cap : List AV} {s : St} {round : List AV -> St -> (St -> Prop) -> Prop} {K : St -> Prop} (fn : Func) (h1 : P.funcs[f]? = some fn) (h2 : fnOk P f fn = true) (hN : Nat.ble (Nat.succ cap.length) fn.ntmps = true)
  (hK : ∀ l,awC T gl (callS P gl) (HY H l round) G0 (fn.body.getD .skip) ⟨tmOf (.yl l :: cap),s.hp,s.nx⟩ fun e s' => (e = .normal ∨ e = .ret)∧resA T s' fn.results.toList fun _ => K ⟨s.tm,s'.hp,s'.nx⟩) : Gn P T gl H f cap s round K:=by
 obtain ⟨cd,g1,g2,g3,g4⟩:=fnOk_parts h2
 rw [g1] at hK
 exact ⟨fn,cd,h1,g1,g2,g3,hN,g4,hK⟩
end Ab
