import Derived.Test.YteghdokklckbhaaDoorXCut
/-!
Contracts.
-/
namespace Ab
open Go Go.RowKit

/-! contracts -/

/-- the package variables that are read hold what gl says -/
def GlOk (w : World) (F : Foot) (gl : List (Nat × AV)) : Prop := ∀ g av, look gl g = some av → RepM w F (fun _ => none) av (.pointer (some ⟨g, 0, none⟩))

/-- called with data ds, function f answers r and leaves all memory that was there as it was -/
def Spec (P : Program) (gl : List (Nat × AV)) (f : FuncId) (ds : List AV) (r : AV) : Prop :=
  enters P f = true ∧ ∀ (w : World) (F : Foot) (vals : List Value), (∀ b, F b → b < w.heap.size) → GlOk w F gl → RepDL w F ds vals →
    Calls P f ⟨vals⟩ w fun e w' => ∃ v, e = .returned v ∧ RepD w' (fun b => F b ∨ (w.heap.size ≤ b ∧ b < w'.heap.size)) r v ∧ Below w.heap.size w w'

/-- there is no slice and no address in it -/
def plain : AV → Bool
  | .int _ _ | .bool _ | .str _ => true
  | _ => false
def plains : List AV → Bool
  | [] => true
  | v :: vs => and (plain v) (plains vs)
def plainR : AV → Bool
  | .tup vs => plains vs
  | v => plain v

/-- a call by contract -/
def callS (P : Program) (gl : List (Nat × AV)) (f : Tg) (args : List AV) (s : St) (K : AV → St → Prop) : Prop :=
  match f with
  | .fn f => toDAs s.hp args fun ds => ∃ r, Spec P gl f ds r ∧ match plainR r with | true => K r s | false => K r ⟨s.tm, frz (keysAs args) s.hp, s.nx⟩
  | .yl _ => False

theorem callS_makes (P : Program) (gl : List (Nat × AV)) : HMakes (callS P gl) := by
  intro f args s K h
  unfold callS at h
  cases f with
  | yl l => exact h.elim
  | fn f =>
    obtain ⟨ds, ⟨r, hs, h⟩, hd⟩ := Sel.toDAs args _ h
    cases hp : plainR r with
    | true =>
      rw [hp] at h
      refine ⟨r, s.hp, h, fun k => .inl rfl, fun tm' K' hK => ?_⟩
      unfold callS
      refine hd _ ⟨r, hs, ?_⟩
      rw [hp]
      exact hK
    | false =>
      rw [hp] at h
      refine ⟨r, frz (keysAs args) s.hp, h, frz_eq' _, fun tm' K' hK => ?_⟩
      unfold callS
      refine hd _ ⟨r, hs, ?_⟩
      rw [hp]
      exact hK

/-- the like, slices of slices too -/
def callW (P : Program) (gl : List (Nat × AV)) (f : Tg) (args : List AV) (s : St) (K : AV → St → Prop) : Prop :=
  match f with
  | .fn f => toWs s.hp args fun ds => ∃ r, Spec P gl f ds r ∧ match plainR r with | true => K r s | false => K r ⟨s.tm, frzW (keysWs s.hp args) s.hp, s.nx⟩
  | .yl _ => False

def tmOf : List AV → Nat → AV
  | [], _ => .undef
  | v :: l, k => bif Nat.beq k 0 then v else tmOf l (Nat.pred k)

/-- what a function hands back -/
def resA (T : List (Nat × TyI)) (s : St) : List ResultVar → (List AV → Prop) → Prop
  | [], K => K []
  | .tmp t :: rs, K => force (s.tm t) fun v => resA T s rs fun vs => K (v :: vs)
  | .cell a t :: rs, K => aLoad T none t (s.tm a) s fun v => resA T s rs fun vs => K (v :: vs)
def resV (vs : List AV) : AV :=
  match vs with
  | [v] => v
  | vs => .tup vs

/-- calls in an iterator: of yield, or others -/
def HY (H : Tg → List AV → St → (AV → St → Prop) → Prop) (l : Nat) (round : List AV → St → (St → Prop) → Prop) (f : Tg) (args : List AV) (s : St) (K : AV → St → Prop) : Prop :=
  match f with
  | .fn f => H (.fn f) args s K
  | .yl l' => l' = l ∧ round args s fun s' => K (.bool true) ⟨s.tm, s'.hp, s'.nx⟩
def G0 (_ : FuncId) (_ : List AV) (_ : St) (_ : List AV → St → (St → Prop) → Prop) (_ : St → Prop) : Prop := False
/-- iterators, entered -/
def Gn (P : Program) (T : List (Nat × TyI)) (gl : List (Nat × AV)) (H : Tg → List AV → St → (AV → St → Prop) → Prop) (f : FuncId) (cap : List AV) (s : St) (round : List AV → St → (St → Prop) → Prop) (K : St → Prop) : Prop :=
  ∃ fn cd, P.funcs[f]? = some fn ∧ fn.body = some cd ∧ enters P f = true ∧ codeOk P fn.ntmps cd = true ∧ Nat.ble (Nat.succ cap.length) fn.ntmps = true ∧
    (fn.results.toList.all fun r => match r with | .tmp t => Nat.blt t fn.ntmps | .cell a _ => Nat.blt a fn.ntmps) = true ∧
    ∀ l, awC T gl (callS P gl) (HY H l round) G0 cd ⟨tmOf (.yl l :: cap), s.hp, s.nx⟩ fun e s' => (e = .normal ∨ e = .ret) ∧ resA T s' fn.results.toList fun _ => K ⟨s.tm, s'.hp, s'.nx⟩

/-- calls by contract, or entered, n deep -/
def Hn (P : Program) (T : List (Nat × TyI)) (gl : List (Nat × AV)) : Nat → Tg → List AV → St → (AV → St → Prop) → Prop
  | 0, f, args, s, K => callW P gl f args s K
  | n + 1, f, args, s, K => callW P gl f args s K ∨ match f with
    | .fn f => (∃ fn cd, P.funcs[f]? = some fn ∧ fn.body = some cd ∧ enters P f = true ∧ codeOk P fn.ntmps cd = true ∧ Nat.ble args.length fn.ntmps = true ∧
        (fn.results.toList.all fun r => match r with | .tmp t => Nat.blt t fn.ntmps | .cell a _ => Nat.blt a fn.ntmps) = true ∧
        awC T gl (callS P gl) (Hn P T gl n) (Gn P T gl (Hn P T gl n)) cd ⟨tmOf args, s.hp, s.nx⟩ fun e s' => (e = .normal ∨ e = .ret) ∧ resA T s' fn.results.toList fun vs => K (resV vs) ⟨s.tm, s'.hp, s'.nx⟩) ∨
      (∃ fn cd, P.funcs[f]? = some fn ∧ fn.body = some cd ∧ enters P f = true ∧ codeOk P fn.ntmps cd = true ∧ Nat.ble args.length fn.ntmps = true ∧
        (fn.results.toList.all fun r => match r with | .tmp t => Nat.blt t fn.ntmps | .cell a _ => Nat.blt a fn.ntmps) = true ∧
        awC T gl (callS P gl) (Hn P T gl n) (Gn P T gl (Hn P T gl n)) cd ⟨tmOf args, s.hp, s.nx⟩ fun e s' => (e = .normal ∨ e = .ret) ∧ resA T s' fn.results.toList fun vs => bl s.nx (resV vs) = true ∧ clean s.nx s'.hp s.nx ∧ K (resV vs) ⟨s.tm, cutH s.nx s'.hp, s.nx⟩)
    | .yl _ => False
end Ab
