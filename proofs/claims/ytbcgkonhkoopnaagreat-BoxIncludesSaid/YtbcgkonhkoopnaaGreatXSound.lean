import Derived.Test.YtbcgkonhkoopnaaGreatXCut
/-!
Contracts.
-/
namespace Ab
open Go Go.RowKit

/-! contracts -/

/-- the package variables that are read hold what gl says -/
def GlOk (w : World) (F : Foot) (gl : List (Nat × AV)) : Prop := ∀ g av, look gl g = some av → RepM w F (fun _ => none) av (.pointer (some ⟨g, 0, none⟩))

/-- called with data ds, function f answers r and leaves all memory that was there as it was -/
def Spec (P : Program) (gl : List (Nat × AV)) (f : FuncId) (ds : List AV) (r : AV) : Prop :=
  ∀ (w : World) (F : Foot) (vals : List Value), (∀ b, F b → b < w.heap.size) → GlOk w F gl → RepDL w F ds vals →
    Does P f ⟨vals⟩ w fun e w' => ∃ v, e = .returned v ∧ RepD w' (fun b => F b ∨ (w.heap.size ≤ b ∧ b < w'.heap.size)) r v ∧ Below w.heap.size w w'

/-- there is no slice and no address in it -/
def plain : AV → Bool
  | .int _ _ | .bool _ | .str _ => true
  | _ => false
def plains : List AV → Bool
  | [] => true
  | v :: vs => and (plain v) (plains vs)
def plainR : AV → Bool
  | .tup vs => plains vs
  | v => plain v

/-- a call by contract -/
def callS (P : Program) (gl : List (Nat × AV)) (f : Tg) (args : List AV) (s : St) (K : AV → St → Prop) : Prop :=
  match f with
  | .fn f => match boxy s.hp args with
    | false => toDAs s.hp args fun ds => ∃ r, Spec P gl f ds r ∧ match plainR r with | true => K r s | false => K r ⟨s.tm, frz (keysAs args) s.hp, s.nx⟩
    | true => toPs s.hp args fun ds => ∃ r, Spec P gl f ds r ∧ match plainR r with | true => K r s | false => False
  | .yl _ => False

theorem keysAs_app : ∀ (l : List AV) (m : List AV), keysAs (l ++ m) = keysAs l ++ keysAs m
  | [], m => rfl
  | a :: l, m => by rw [List.cons_append]; simp only [keysAs]; rw [keysAs_app l m, List.append_assoc]
section
variable {k : Nat} {b : Option Blk} {hp : Nat → Option Blk}
theorem toD_upd {v : AV} (h : k ∉ keys v) : toD (upd k b hp) v = toD hp v := by
  cases v with
  | ms j off n =>
    have : j ≠ k := fun e => h (by simp [keys, e])
    funext K
    simp only [toD, upd_ne this]
  | _ => rfl
theorem toDs_upd : ∀ {l : List AV}, k ∉ keysL l → toDs (upd k b hp) l = toDs hp l
  | [], _ => rfl
  | v :: l, h => by
      have h1 : k ∉ keys v := fun e => h (by simp [keysL, e])
      have h2 : k ∉ keysL l := fun e => h (by simp [keysL, e])
      funext K
      simp only [toDs, toD_upd h1, toDs_upd h2]
theorem toDA_upd {v : AV} (h : k ∉ keysA v) : toDA (upd k b hp) v = toDA hp v := by
  cases v with
  | agg cs => funext K; simp only [toDA, toDs_upd (show k ∉ keysL cs from h)]
  | tup cs => rfl
  | ms j o n => exact toD_upd (v := .ms j o n) h
  | _ => rfl
theorem toDAs_upd : ∀ {l : List AV}, k ∉ keysAs l → toDAs (upd k b hp) l = toDAs hp l
  | [], _ => rfl
  | v :: l, h => by
      have h1 : k ∉ keysA v := fun e => h (by simp [keysAs, e])
      have h2 : k ∉ keysAs l := fun e => h (by simp [keysAs, e])
      funext K
      simp only [toDAs, toDA_upd h1, toDAs_upd h2]
theorem isBox_upd {v : AV} (h : k ∉ keysA v) : isBox (upd k b hp) v = isBox hp v := by
  cases v with
  | ms j off n =>
    have : j ≠ k := fun e => h (by simp [keysA, keys, e])
    simp only [isBox, upd_ne this]
  | _ => rfl
theorem boxy_upd : ∀ {l : List AV}, k ∉ keysAs l → boxy (upd k b hp) l = boxy hp l
  | [], _ => rfl
  | v :: l, h => by
      have h1 : k ∉ keysA v := fun e => h (by simp [keysAs, e])
      have h2 : k ∉ keysAs l := fun e => h (by simp [keysAs, e])
      simp only [boxy, isBox_upd h1, boxy_upd h2]
theorem frz_upd {ks : List Nat} (h : k ∉ ks) : frz ks (upd k b hp) = upd k b (frz ks hp) := by
  funext j
  rw [frz_at]
  by_cases e : j = k
  · subst e; rw [if_neg h, upd_same, upd_same]
  · rw [upd_ne e, upd_ne e, frz_at]
theorem toP_upd {v : AV} (h : k ∉ keysA v) : toP (upd k b hp) v = toP hp v := by
  cases v with
  | ms j off n =>
    have hj : j ≠ k := fun e => h (by simp [keysA, keys, e])
    funext K
    simp only [toP, upd_ne hj, toD_upd (v := .ms j off n) h]
  | agg cs => exact toDA_upd (v := .agg cs) h
  | _ => rfl
theorem toPs_upd : ∀ {l : List AV}, k ∉ keysAs l → toPs (upd k b hp) l = toPs hp l
  | [], _ => rfl
  | v :: l, h => by
      have h1 : k ∉ keysA v := fun e => h (by simp [keysAs, e])
      have h2 : k ∉ keysAs l := fun e => h (by simp [keysAs, e])
      funext K
      simp only [toPs, toP_upd h1, toPs_upd h2]
end
theorem callS_makes (P : Program) (gl : List (Nat × AV)) : HMakes (callS P gl) := by
  intro f args s K h
  unfold callS at h
  cases f with
  | yl l => exact h.elim
  | fn f =>
    simp only at h
    cases hx : boxy s.hp args with
    | false =>
      rw [hx] at h
      obtain ⟨ds, ⟨r, hs, h⟩, hd⟩ := Sel.toDAs args _ h
      cases hp : plainR r with
      | true =>
        rw [hp] at h
        refine ⟨r, s.hp, h, fun k => .inl rfl, fun tm' K' hK => ?_, fun _ k b hk tm' K' hK => ?_⟩
        · unfold callS
          simp only [hx]
          refine hd _ ⟨r, hs, ?_⟩
          rw [hp]
          exact hK
        · unfold callS
          simp only [boxy_upd hk, hx, toDAs_upd hk]
          refine hd _ ⟨r, hs, ?_⟩
          rw [hp]
          exact hK
      | false =>
        rw [hp] at h
        refine ⟨r, frz (keysAs args) s.hp, h, frz_eq' _, fun tm' K' hK => ?_, fun _ k b hk tm' K' hK => ?_⟩
        · unfold callS
          simp only [hx]
          refine hd _ ⟨r, hs, ?_⟩
          rw [hp]
          exact hK
        · unfold callS
          simp only [boxy_upd hk, hx, toDAs_upd hk]
          refine hd _ ⟨r, hs, ?_⟩
          rw [hp]
          simp only [frz_upd hk]
          exact hK
    | true =>
      rw [hx] at h
      obtain ⟨ds, ⟨r, hs, h⟩, hd⟩ := Sel.toPs args _ h
      cases hp : plainR r with
      | true =>
        rw [hp] at h
        refine ⟨r, s.hp, h, fun k => .inl rfl, fun tm' K' hK => ?_, fun _ k b hk tm' K' hK => ?_⟩
        · unfold callS
          simp only [hx]
          refine hd _ ⟨r, hs, ?_⟩
          rw [hp]
          exact hK
        · unfold callS
          simp only [boxy_upd hk, hx, toPs_upd hk]
          refine hd _ ⟨r, hs, ?_⟩
          rw [hp]
          exact hK
      | false => rw [hp] at h; exact h.elim

/-- a call that is entered, and leaves the blocks as they are -/
def callE (H : Tg → List AV → St → (AV → St → Prop) → Prop) (f : Tg) (args : List AV) (s : St) (K : AV → St → Prop) : Prop :=
  match f with
  | .yl _ => False
  | .fn f => ∃ r, K r s ∧ ∀ tm, H (.fn f) args ⟨tm, s.hp, s.nx⟩ fun v s' => v = r ∧ bl s.nx r = true ∧ clean s.nx s'.hp s.nx ∧ ∀ k, k < s.nx → (s.hp k = none ∨ s.hp k = s'.hp k)
/-- where the order is open -/
def callX (P : Program) (gl : List (Nat × AV)) (H : Tg → List AV → St → (AV → St → Prop) → Prop) (f : Tg) (args : List AV) (s : St) (K : AV → St → Prop) : Prop :=
  match ptrs args with
  | false => callS P gl f args s K
  | true => callE H f args s K
theorem callX_makes (P : Program) (gl : List (Nat × AV)) (H : Tg → List AV → St → (AV → St → Prop) → Prop) : HMakes (callX P gl H) := by
  intro f args s K h
  unfold callX at h
  cases hp : ptrs args with
  | false =>
    rw [hp] at h
    obtain ⟨r, hp1, h1, h2, h3, h4⟩ := callS_makes P gl f args s K h
    refine ⟨r, hp1, h1, h2, fun tm' K' hK => ?_, fun he k b hk tm' K' hK => ?_⟩
    · unfold callX; rw [hp]; exact h3 tm' K' hK
    · unfold callX; rw [hp]; exact h4 hp k b hk tm' K' hK
  | true =>
    rw [hp] at h
    cases f with
    | yl l => exact h.elim
    | fn f =>
      obtain ⟨r, h1, h2⟩ := h
      refine ⟨r, s.hp, h1, fun k => .inl rfl, fun tm' K' hK => ?_, fun e => (by cases e)⟩
      unfold callX; rw [hp]
      exact ⟨r, hK, h2⟩

/-- the like, slices of slices too -/
def callW (P : Program) (gl : List (Nat × AV)) (f : Tg) (args : List AV) (s : St) (K : AV → St → Prop) : Prop :=
  match f with
  | .fn f => match boxy s.hp args with
    | false => toWs s.hp args fun ds => ∃ r, Spec P gl f ds r ∧ match plainR r with | true => K r s | false => K r ⟨s.tm, frzW (keysWs s.hp args) s.hp, s.nx⟩
    | true => toPs s.hp args fun ds => ∃ r, Spec P gl f ds r ∧ match plainR r with | true => K r s | false => False
  | .yl _ => False

def tmOf : List AV → Nat → AV
  | [], _ => .undef
  | v :: l, k => bif Nat.beq k 0 then v else tmOf l (Nat.pred k)

/-- what a function hands back -/
def resA (T : List (Nat × TyI)) (s : St) : List ResultVar → (List AV → Prop) → Prop
  | [], K => K []
  | .tmp t :: rs, K => force (s.tm t) fun v => resA T s rs fun vs => K (v :: vs)
  | .cell a t :: rs, K => aLoad T none t (s.tm a) s fun v => resA T s rs fun vs => K (v :: vs)
def resV (vs : List AV) : AV :=
  match vs with
  | [v] => v
  | vs => .tup vs

/-- calls in an iterator: of yield, or others -/
def HY (H : Tg → List AV → St → (AV → St → Prop) → Prop) (l : Nat) (round : List AV → St → (St → Prop) → Prop) (f : Tg) (args : List AV) (s : St) (K : AV → St → Prop) : Prop :=
  match f with
  | .fn f => H (.fn f) args s K
  | .yl l' => l' = l ∧ round args s fun s' => K (.bool true) ⟨s.tm, s'.hp, s'.nx⟩
def G0 (_ : FuncId) (_ : List AV) (_ : St) (_ : List AV → St → (St → Prop) → Prop) (_ : St → Prop) : Prop := False
/-- iterators, entered -/
def Gn (P : Program) (T : List (Nat × TyI)) (gl : List (Nat × AV)) (H : Tg → List AV → St → (AV → St → Prop) → Prop) (f : FuncId) (cap : List AV) (s : St) (round : List AV → St → (St → Prop) → Prop) (K : St → Prop) : Prop :=
  ∃ fn cd, P.funcs[f]? = some fn ∧ fn.body = some cd ∧ enters P f = true ∧ codeOk P fn.ntmps cd = true ∧ Nat.ble (Nat.succ cap.length) fn.ntmps = true ∧
    (fn.results.toList.all fun r => match r with | .tmp t => Nat.blt t fn.ntmps | .cell a _ => Nat.blt a fn.ntmps) = true ∧
    ∀ l, awC T gl (callS P gl) (HY H l round) G0 cd ⟨tmOf (.yl l :: cap), s.hp, s.nx⟩ fun e s' => (e = .normal ∨ e = .ret) ∧ resA T s' fn.results.toList fun _ => K ⟨s.tm, s'.hp, s'.nx⟩

/-- calls by contract, or entered, n deep -/
def Hn (P : Program) (T : List (Nat × TyI)) (gl : List (Nat × AV)) : Nat → Tg → List AV → St → (AV → St → Prop) → Prop
  | 0, f, args, s, K => callW P gl f args s K
  | n + 1, f, args, s, K => callW P gl f args s K ∨ match f with
    | .fn f => (∃ fn cd, P.funcs[f]? = some fn ∧ fn.body = some cd ∧ enters P f = true ∧ codeOk P fn.ntmps cd = true ∧ Nat.ble args.length fn.ntmps = true ∧
        (fn.results.toList.all fun r => match r with | .tmp t => Nat.blt t fn.ntmps | .cell a _ => Nat.blt a fn.ntmps) = true ∧
        awC T gl (callX P gl (Hn P T gl n)) (Hn P T gl n) (Gn P T gl (Hn P T gl n)) cd ⟨tmOf args, s.hp, s.nx⟩ fun e s' => (e = .normal ∨ e = .ret) ∧ resA T s' fn.results.toList fun vs => K (resV vs) ⟨s.tm, s'.hp, s'.nx⟩) ∨
      (∃ fn cd, P.funcs[f]? = some fn ∧ fn.body = some cd ∧ enters P f = true ∧ codeOk P fn.ntmps cd = true ∧ Nat.ble args.length fn.ntmps = true ∧
        (fn.results.toList.all fun r => match r with | .tmp t => Nat.blt t fn.ntmps | .cell a _ => Nat.blt a fn.ntmps) = true ∧
        awC T gl (callX P gl (Hn P T gl n)) (Hn P T gl n) (Gn P T gl (Hn P T gl n)) cd ⟨tmOf args, s.hp, s.nx⟩ fun e s' => (e = .normal ∨ e = .ret) ∧ resA T s' fn.results.toList fun vs => bl s.nx (resV vs) = true ∧ clean s.nx s'.hp s.nx ∧ K (resV vs) ⟨s.tm, cutH s.nx s'.hp, s.nx⟩)
    | .yl _ => False
end Ab
