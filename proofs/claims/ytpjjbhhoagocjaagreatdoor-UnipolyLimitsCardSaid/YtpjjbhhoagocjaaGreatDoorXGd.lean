import Derived.Test.YtpjjbhhoagocjaaGreatDoorXGc
section
namespace Ab
open Go
def guardB {α : Type} (c : Bool) (x : Option α) : Option α:=match c with | true => x | false => none
theorem guardB_some {α : Type} {c : Bool} {x : Option α} {v : α} (h : guardB c x = some v) : c = true∧x = some v:=by
 cases c with
 | true => exact ⟨rfl,h⟩
 | false => cases h
def forceN {α : Type} (n : Nat) (K : Nat -> α) : α:=match n with | 0 => K 0 | Nat.succ m => K (Nat.succ m)
def forceI {α : Type} (n : Int) (K : Int -> α) : α:=match n with | .ofNat m => forceN m fun m => K (.ofNat m) | .negSucc m => forceN m fun m => K (.negSucc m)
theorem forceN_eq {α : Type} (n : Nat) (K : Nat -> α) : forceN n K = K n:=by cases n <;> rfl
theorem forceI_eq {α : Type} (n : Int) (K : Int -> α) : forceI n K = K n:=by cases n <;> (unfold forceI; exact forceN_eq _ _)
def forceB {α : Type} (b : Bool) (K : Bool -> α) : α:=match b with | true => K true | false => K false
theorem forceB_eq {α : Type} (n : Bool) (K : Bool -> α) : forceB n K = K n:=by cases n <;> rfl
mutual
def forceV {α : Type} (v : AV) (K : AV -> α) : α :=
 match v with
 | .int k n => forceI n fun n => K (.int k n)
 | .bool b => forceB b fun b => K (.bool b)
 | .str s => K (.str s)
 | .sl r => forceRs r fun r => K (.sl r)
 | .nil => K .nil
 | .agg cs => forceVs cs fun cs => K (.agg cs)
 | .tup vs => forceVs vs fun vs => K (.tup vs)
 | .bp k o => forceN k fun k => forceN o fun o => K (.bp k o)
 | .ap k r o => forceN k fun k => forceN r fun r => forceN o fun o => K (.ap k r o)
 | .er row o => forceVs row fun row => forceN o fun o => K (.er row o)
 | .ms k o n => forceN k fun k => forceN o fun o => forceN n fun n => K (.ms k o n)
 | .fn f c => forceVs c fun c => K (.fn f c)
 | .yl l => K (.yl l)
 | .lit l => K (.lit l)
 | .mv k => forceN k fun k => K (.mv k)
 | .undef => K .undef
def forceVs {α : Type} (l : List AV) (K : List AV -> α) : α :=
 match l with
 | [] => K []
 | v :: vs => forceV v fun v => forceVs vs fun vs => K (v :: vs)
def forceRs {α : Type} (l : List (List AV)) (K : List (List AV) -> α) : α :=
 match l with
 | [] => K []
 | v :: vs => forceVs v fun v => forceRs vs fun vs => K (v :: vs)
end
mutual
theorem forceV_eq {α : Type} (v : AV) (K : AV -> α) : forceV v K = K v:=by
 cases v with
 | sl r => unfold forceV; exact forceRs_eq r _
 | agg cs => unfold forceV; exact forceVs_eq cs _
 | tup cs => unfold forceV; exact forceVs_eq cs _
 | fn f cs => unfold forceV; exact forceVs_eq cs _
 | er cs o => unfold forceV; rw [forceVs_eq cs]; exact forceN_eq _ _
 | int k n => unfold forceV; exact forceI_eq _ _
 | bool k => unfold forceV; exact forceB_eq _ _
 | bp k o => unfold forceV; simp only [forceN_eq]
 | ap k r o => unfold forceV; simp only [forceN_eq]
 | ms k r o => unfold forceV; simp only [forceN_eq]
 | mv k => unfold forceV; simp only [forceN_eq]
 | _ => unfold forceV; rfl
theorem forceVs_eq {α : Type} (l : List AV) (K : List AV -> α) : forceVs l K = K l:=by
 cases l with
 | nil => unfold forceVs; rfl
 | cons v vs => unfold forceVs; rw [forceV_eq v]; exact forceVs_eq vs _
theorem forceRs_eq {α : Type} (l : List (List AV)) (K : List (List AV) -> α) : forceRs l K = K l:=by
 cases l with
 | nil => unfold forceRs; rfl
 | cons v vs => unfold forceRs; rw [forceVs_eq v]; exact forceRs_eq vs _
end
def Gives {α : Type} (x : Option α) (φ : (α -> Prop) -> Prop) : Prop:=∀ v,x = some v -> ∀ K : α -> Prop,K v -> φ K
theorem Gives.one {α : Type} (v : α) : Gives (some v) (fun K => K v):=fun u h K hK => by cases h; exact hK
theorem Gives.none {α : Type} {φ : (α -> Prop) -> Prop} : Gives Option.none φ:=fun u h => by cases h
theorem Gives.chk {α : Type} {c : Bool} {C : Prop} {x : Option α} {φ : (α -> Prop) -> Prop} (hc : c = true -> C) (h : Gives x φ) : Gives (guardB c x) (fun K => C∧φ K):=fun u hu K hK => by
 obtain ⟨h1,h2⟩:=guardB_some hu
 exact ⟨hc h1,h u h2 K hK⟩
theorem Gives.bind {α β : Type} {x : Option α} {φ : (α -> Prop) -> Prop} {f : α -> Option β} {ψ : α -> (β -> Prop) -> Prop} (h : Gives x φ) (g : ∀ a,Gives (f a) (ψ a)) : Gives (x.bind f) (fun K => φ fun a => ψ a K):=fun u hu K hK => by
 obtain ⟨a,h1,h2⟩:=Option.bind_eq_some_iff.1 hu
 exact h a h1 _ (g a u h2 K hK)
theorem Gives.map {α β : Type} {x : Option α} {φ : (α -> Prop) -> Prop} (h : Gives x φ) (f : α -> β) : Gives (x.bind fun a => some (f a)) (fun K => φ fun a => K (f a)):=h.bind fun a => Gives.one (f a)
theorem Gives.eq {α : Type} {x : Option α} {φ ψ : (α -> Prop) -> Prop} (h : Gives x φ) (e : ∀ K,φ K = ψ K) : Gives x ψ:=fun u hu K hK => by rw [<- e]; exact h u hu K hK
theorem ble_le {m n : Nat} (h : Nat.ble m n = true) : m <= n:=Nat.le_of_ble_eq_true h
def toDB (hp : Nat -> Option Blk) (v : AV) : Option AV :=
 match v with
 | .int k n => some (.int k n)
 | .bool b => some (.bool b)
 | .str s => some (.str s)
 | .sl rows => some (.sl rows)
 | .nil => some (.sl [])
 | .ms k off len => match hp k with
  | some (.arr _ rows _) => guardB (Nat.ble (off + len) rows.length) (some (.sl ((rows.drop off).take len)))
  | _ => none
 | _ => none
theorem toDB_ok (hp : Nat -> Option Blk) (v : AV) : Gives (toDB hp v) (toD hp v):=by
 unfold toDB toD
 cases v with
 | ms k off len =>
  simp only
  cases hp k with
  | none => exact Gives.none
  | some b => cases b <;> first | exact Gives.none | exact Gives.chk ble_le (Gives.one _)
 | _ => first | exact Gives.one _ | exact Gives.none
def toDsB (hp : Nat -> Option Blk) : List AV -> Option (List AV)
 | [] => some []
 | v :: vs => (toDB hp v).bind fun d => (toDsB hp vs).bind fun ds => some (d :: ds)
theorem toDsB_ok (hp : Nat -> Option Blk) : ∀ vs,Gives (toDsB hp vs) (toDs hp vs)
 | [] => Gives.one _
 | v :: vs => (toDB_ok hp v).bind fun d => (toDsB_ok hp vs).map fun ds => d :: ds
def toDAB (hp : Nat -> Option Blk) (v : AV) : Option AV :=
 match v with
 | .agg cs => (toDsB hp cs).bind fun cs => some (.agg cs)
 | .tup _ => none
 | v => toDB hp v
theorem toDAB_ok (hp : Nat -> Option Blk) (v : AV) : Gives (toDAB hp v) (toDA hp v):=by
 cases v with
 | agg cs => exact (toDsB_ok hp cs).map _
 | tup _ => exact Gives.none
 | int k n => exact toDB_ok hp (.int k n)
 | bool b => exact toDB_ok hp (.bool b)
 | str b => exact toDB_ok hp (.str b)
 | sl b => exact toDB_ok hp (.sl b)
 | nil => exact toDB_ok hp .nil
 | bp k o => exact toDB_ok hp (.bp k o)
 | ap k r o => exact toDB_ok hp (.ap k r o)
 | er k o => exact toDB_ok hp (.er k o)
 | ms k o n => exact toDB_ok hp (.ms k o n)
 | fn f c => exact toDB_ok hp (.fn f c)
 | yl l => exact toDB_ok hp (.yl l)
 | lit l => exact toDB_ok hp (.lit l)
 | mv l => exact toDB_ok hp (.mv l)
 | undef => exact toDB_ok hp .undef
def toDAsB (hp : Nat -> Option Blk) : List AV -> Option (List AV)
 | [] => some []
 | v :: vs => (toDAB hp v).bind fun d => (toDAsB hp vs).bind fun ds => some (d :: ds)
theorem toDAsB_ok (hp : Nat -> Option Blk) : ∀ vs,Gives (toDAsB hp vs) (toDAs hp vs)
 | [] => Gives.one _
 | v :: vs => (toDAB_ok hp v).bind fun d => (toDAsB_ok hp vs).map fun ds => d :: ds
def toWB (hp : Nat -> Option Blk) (v : AV) : Option AV :=
 match v with
 | .ms k off len => match hp k with
  | some (.own _ cs) => guardB (Nat.ble (off + len) cs.length) ((toDsB hp ((cs.drop off).take len)).bind fun ds => some (.sl (ds.map fun d => [d])))
  | _ => toDB hp (.ms k off len)
 | v => toDAB hp v
theorem toWB_ok (hp : Nat -> Option Blk) (v : AV) : Gives (toWB hp v) (toW hp v):=by
 cases v with
 | ms k off len =>
  show Gives (match hp k with
   | some (.own _ cs) => guardB (Nat.ble (off + len) cs.length) ((toDsB hp ((cs.drop off).take len)).bind fun ds => some (.sl (ds.map fun d => [d])))
   | _ => toDB hp (.ms k off len)) (fun K => match hp k with
   | some (.own _ cs) => off + len <= cs.length∧toDs hp ((cs.drop off).take len) fun ds => K (.sl (ds.map fun d => [d]))
   | _ => toD hp (.ms k off len) K)
  cases hp k with
  | none => exact toDB_ok hp _
  | some b => cases b with
   | own et cs => exact Gives.chk ble_le ((toDsB_ok hp _).map _)
   | _ => exact toDB_ok hp _
 | agg cs => exact toDAB_ok hp (.agg cs)
 | tup cs => exact Gives.none
 | int k n => exact toDB_ok hp (.int k n)
 | bool b => exact toDB_ok hp (.bool b)
 | str b => exact toDB_ok hp (.str b)
 | sl b => exact toDB_ok hp (.sl b)
 | nil => exact toDB_ok hp .nil
 | bp k o => exact toDB_ok hp (.bp k o)
 | ap k r o => exact toDB_ok hp (.ap k r o)
 | er k o => exact toDB_ok hp (.er k o)
 | fn f c => exact toDB_ok hp (.fn f c)
 | yl l => exact toDB_ok hp (.yl l)
 | lit l => exact toDB_ok hp (.lit l)
 | mv l => exact toDB_ok hp (.mv l)
 | undef => exact toDB_ok hp .undef
def toWsB (hp : Nat -> Option Blk) : List AV -> Option (List AV)
 | [] => some []
 | v :: vs => (toWB hp v).bind fun d => (toWsB hp vs).bind fun ds => some (d :: ds)
theorem toWsB_ok (hp : Nat -> Option Blk) : ∀ vs,Gives (toWsB hp vs) (toWs hp vs)
 | [] => Gives.one _
 | v :: vs => (toWB_ok hp v).bind fun d => (toWsB_ok hp vs).map fun ds => d :: ds
def toPB (hp : Nat -> Option Blk) (v : AV) : Option AV :=
 match v with
 | .ms k off len => match hp k with
  | some (.box cs) => guardB (Nat.ble cs.length 65536) (guardB (Nat.ble (off + len) cs.length) ((toDsB (fun _ => none) ((cs.drop off).take len)).bind fun ds => some (.sl (ds.map fun d => [d]))))
  | _ => toDB hp (.ms k off len)
 | v => toDAB hp v
theorem toPB_ok (hp : Nat -> Option Blk) (v : AV) : Gives (toPB hp v) (toP hp v):=by
 cases v with
 | ms k off len =>
  show Gives (match hp k with
   | some (.box cs) => guardB (Nat.ble cs.length 65536) (guardB (Nat.ble (off + len) cs.length) ((toDsB (fun _ => none) ((cs.drop off).take len)).bind fun ds => some (.sl (ds.map fun d => [d]))))
   | _ => toDB hp (.ms k off len)) (fun K => match hp k with
   | some (.box cs) => (Nat.ble cs.length 65536 = true∧off + len <= cs.length)∧toDs (fun _ => none) ((cs.drop off).take len) fun ds => K (.sl (ds.map fun d => [d]))
   | _ => toD hp (.ms k off len) K)
  cases hp k with
  | none => exact toDB_ok hp (.ms k off len)
  | some b =>
   cases b with
   | res => first | exact hK.elim | (rw [hb] at hK; exact hK.elim) | exact h.elim | (rw [hb] at h; exact h.elim) | (rw [hb] at hK2; exact hK2.elim) | (rw [hb] at hK; simp only at hK; exact hK.elim) | exact Sel.no | exact Gives.none | exact Give2.none | exact toDB_ok hp (.ms k off len) | (have:=Sel.toD (hp:=hp) (.ms k off len); exact this) | exact .inl rfl | (cases hK; done) | (cases h; done)
   | mp _ => first | exact hK.elim | (rw [hb] at hK; exact hK.elim) | exact h.elim | (rw [hb] at h; exact h.elim) | (rw [hb] at hK2; exact hK2.elim) | (rw [hb] at hK; simp only at hK; exact hK.elim) | exact Sel.no | exact Gives.none | exact Give2.none | exact toDB_ok hp (.ms k off len) | (have:=Sel.toD (hp:=hp) (.ms k off len); exact this) | exact .inl rfl | (cases hK; done) | (cases h; done)
   | box cs =>
    intro v h K hK
    obtain ⟨h1,h2⟩:=guardB_some h
    obtain ⟨h3,h4⟩:=guardB_some h2
    exact ⟨⟨h1,Nat.le_of_ble_eq_true h3⟩,((toDsB_ok (fun _ => none) _).map _) v h4 K hK⟩
   | own _ _ => exact toDB_ok hp (.ms k off len)
   | arr _ _ _ => exact toDB_ok hp (.ms k off len)
 | agg cs => exact toDAB_ok hp (.agg cs)
 | tup cs => exact toDAB_ok hp (.tup cs)
 | int k n => exact toDAB_ok hp (.int k n)
 | bool b => exact toDAB_ok hp (.bool b)
 | str b => exact toDAB_ok hp (.str b)
 | sl b => exact toDAB_ok hp (.sl b)
 | nil => exact toDAB_ok hp .nil
 | bp k o => exact toDAB_ok hp (.bp k o)
 | ap k r o => exact toDAB_ok hp (.ap k r o)
 | er k o => exact toDAB_ok hp (.er k o)
 | fn f c => exact toDAB_ok hp (.fn f c)
 | yl l => exact toDAB_ok hp (.yl l)
 | lit l => exact toDAB_ok hp (.lit l)
 | mv l => exact toDAB_ok hp (.mv l)
 | undef => exact toDAB_ok hp .undef
def toPsB (hp : Nat -> Option Blk) : List AV -> Option (List AV)
 | [] => some []
 | v :: vs => (toPB hp v).bind fun d => (toPsB hp vs).bind fun ds => some (d :: ds)
theorem toPsB_ok (hp : Nat -> Option Blk) : ∀ vs,Gives (toPsB hp vs) (toPs hp vs)
 | [] => Gives.one _
 | v :: vs => (toPB_ok hp v).bind fun d => (toPsB_ok hp vs).map fun ds => d :: ds
def toWRB (hp : Nat -> Option Blk) (v : AV) : Option AV :=
 match v with
 | .tup vs => (toWsB hp vs).bind fun vs => some (.tup vs)
 | v => toWB hp v
theorem toWRB_ok (hp : Nat -> Option Blk) (v : AV) : Gives (toWRB hp v) (toWR hp v):=by
 cases v with
 | tup cs => exact (toWsB_ok hp cs).map _
 | agg cs => exact toWB_ok hp (.agg cs)
 | int k n => exact toWB_ok hp (.int k n)
 | bool b => exact toWB_ok hp (.bool b)
 | str b => exact toWB_ok hp (.str b)
 | sl b => exact toWB_ok hp (.sl b)
 | nil => exact toWB_ok hp .nil
 | bp k o => exact toWB_ok hp (.bp k o)
 | ap k r o => exact toWB_ok hp (.ap k r o)
 | er k o => exact toWB_ok hp (.er k o)
 | ms k o n => exact toWB_ok hp (.ms k o n)
 | fn f c => exact toWB_ok hp (.fn f c)
 | yl l => exact toWB_ok hp (.yl l)
 | lit l => exact toWB_ok hp (.lit l)
 | mv l => exact toWB_ok hp (.mv l)
 | undef => exact toWB_ok hp .undef
def dec (c : Prop) [Decidable c] : Bool:=decide c
theorem dec_ok {c : Prop} [Decidable c] (h : dec c = true) : c:=of_decide_eq_true h
def eqAllB : List Bool -> List AV -> List AV -> Option Bool
 | [],[],[] => some true
 | true :: ks,.int k a :: xs,.int k' b :: ys => match eqK k k' with | true => (eqAllB ks xs ys).bind fun r => some (and (a == b) r) | false => none
 | false :: ks,.bool a :: xs,.bool b :: ys => (eqAllB ks xs ys).bind fun r => some (and (a == b) r)
 | _,_,_ => none
def binB (tb : Option TyI) (op : BinOp) (x y : AV) : Option AV :=
 match x with
 | .int k a => match y with
  | .int k' b =>
   match op with
   | .shl => guardB (dec (0 <= b)) (some (.int k (k.wrap (a * 2 ^ (min b.toNat k.bits)))))
   | .shr => guardB (dec (0 <= b)) (some (.int k (a.fdiv (2 ^ (min b.toNat k.bits)))))
   | op => match eqK k k' with
    | false => none
    | true => match op with
          | .quo => guardB (dec (b ≠ 0)) (some (.int k (k.wrap (a.tdiv b))))
          | .rem => guardB (dec (b ≠ 0)) (some (.int k (a.tmod b)))
          | .add => some (.int k (k.wrap (a + b)))
          | .sub => some (.int k (k.wrap (a - b)))
          | .mul => some (.int k (k.wrap (a * b)))
          | .eql => some (.bool (a == b))
          | .neq => some (.bool (a != b))
          | .lss => some (.bool (decide (a < b)))
          | .leq => some (.bool (decide (a <= b)))
          | .gtr => some (.bool (decide (a > b)))
          | .geq => some (.bool (decide (a ≥ b)))
          | .and => some (.int k (Go.bits .and k a b))
          | .or => some (.int k (Go.bits .or k a b))
          | .xor => some (.int k (Go.bits .xor k a b))
          | .andNot => some (.int k (Go.bits .andNot k a b))
          | _ => none
  | _ => none
 | .bool a => match y with
  | .bool b => match tb with
   | some i => match i.bo with
    | true => match op with
          | .eql => some (.bool (a == b))
          | .neq => some (.bool (a != b))
          | _ => none
    | false => none
   | none => none
  | _ => none
 | .str a => match y with
  | .str b => match op with
   | .eql => some (.bool (a.data.toList == b.data.toList))
   | .neq => some (.bool !(a.data.toList == b.data.toList))
   | _ => none
  | _ => none
 | .agg xs => match y with
  | .agg ys => match tb with
   | some i => match i.eqs with
    | some ks => match op with
      | .eql => (eqAllB ks xs ys).bind fun r => some (.bool r)
      | .neq => (eqAllB ks xs ys).bind fun r => some (.bool !r)
      | _ => none
    | none => none
   | none => none
  | _ => none
 | _ => none
theorem eqAllB_ok : ∀ (ks : List Bool) (xs ys : List AV),Gives (eqAllB ks xs ys) (eqAll ks xs ys)
 | [],xs,ys => by cases xs <;> cases ys <;> first | exact Gives.one _ | exact Gives.none
 | k :: ks,[],ys => by cases k <;> exact Gives.none
 | k :: ks,x :: xs,ys => by
  cases ys with
  | nil => cases k <;> cases x <;> exact Gives.none
  | cons y ys =>
   cases k with
   | true =>
    cases x with
    | int k a =>
     cases y with
     | int k' b =>
      show Gives (eqAllB (true :: ks) (.int k a :: xs) (.int k' b :: ys)) (fun K => eqAll (true :: ks) (.int k a :: xs) (.int k' b :: ys) K)
      simp only [eqAll,eqAllB]
      cases eqK k k' with
      | false => exact Gives.none
      | true => exact (eqAllB_ok ks xs ys).bind fun r => Gives.one _
     | _ => exact Gives.none
    | _ => exact Gives.none
   | false =>
    cases x with
    | bool a =>
     cases y with
     | bool b =>
      show Gives (eqAllB (false :: ks) (.bool a :: xs) (.bool b :: ys)) (fun K => eqAll (false :: ks) (.bool a :: xs) (.bool b :: ys) K)
      simp only [eqAll,eqAllB]
      exact (eqAllB_ok ks xs ys).bind fun r => Gives.one _
     | _ => exact Gives.none
    | _ => exact Gives.none
theorem binB_ok (tb : Option TyI) (op : BinOp) (x y : AV) : Gives (binB tb op x y) (bin tb op x y):=by
 cases x with
 | int k a =>
  cases y with
  | int k' b =>
   intro v h K hK
   cases e : eqK k k' with
   | false =>
    cases op <;> simp only [binB,e] at h <;> simp only [bin,e] <;> first
     | (cases h; done)
     | (obtain ⟨h1,h2⟩:=guardB_some h; cases h2; exact ⟨dec_ok h1,hK⟩)
   | true =>
    cases op <;> simp only [binB,e] at h <;> simp only [bin,e] <;> first
     | (obtain ⟨h1,h2⟩:=guardB_some h; cases h2; exact ⟨dec_ok h1,hK⟩)
     | (cases h; exact hK)
     | (cases h; done)
  | _ => exact Gives.none
 | bool a =>
  cases y with
  | bool b =>
   cases tb with
   | none => exact Gives.none
   | some i =>
    intro v h K hK
    cases e : i.bo with
    | false => simp only [binB,e] at h; cases h
    | true =>
     cases op <;> simp only [binB,e] at h <;> simp only [bin,e] <;> first
      | (cases h; exact hK)
      | (cases h; done)
  | _ => exact Gives.none
 | str a =>
  cases y with
  | str b => cases op <;> first | exact Gives.none | exact Gives.one _
  | _ => exact Gives.none
 | agg xs =>
  cases y with
  | agg ys =>
   show Gives (binB tb op (.agg xs) (.agg ys)) (fun K => bin tb op (.agg xs) (.agg ys) K)
   simp only [binB,bin]
   cases tb with
   | none => exact Gives.none
   | some i =>
    simp only
    cases i.eqs with
    | none => exact Gives.none
    | some ks => cases op <;> first | exact Gives.none | exact (eqAllB_ok ks xs ys).bind fun r => Gives.one _
  | _ => exact Gives.none
 | _ => exact Gives.none
def unB (op : UnOp) (x : AV) : Option AV :=
 match x with
 | .int k n => match op with | .neg => some (.int k (k.wrap (0 - n))) | _ => none
 | .bool b => match op with | .not => some (.bool !b) | _ => none
 | _ => none
theorem unB_ok (op : UnOp) (x : AV) : Gives (unB op x) (un op x):=by
 cases x <;> cases op <;> first | exact Gives.one _ | exact Gives.none
theorem Gives.force (x : AV) : Gives (some x) (Ab.force x):=(Gives.one x).eq fun K => (force_eq x K).symm
theorem Gives.forceL (x : List AV) : Gives (some x) (Ab.forceL x):=(Gives.one x).eq fun K => (forceL_eq x K).symm
def pickB (t : Bool) (x y : AV) : Option AV :=
 match x with
 | .bool a => match y with
  | .bool b => some (.bool (bif t then a else b))
  | y => match t with | true => some (.bool a) | false => some y
 | x => match t with | true => some x | false => some y
theorem pickB_ok (t : Bool) (x y : AV) : Gives (pickB t x y) (pickA t x y):=by
 intro v h K hK
 have gen : ∀ x,(match t with | true => some x | false => some y) = some v -> (t = true -> Ab.force x K)∧(t = false -> Ab.force y K):=by
  intro x h
  simp only [force_eq]
  cases t with
  | true => cases h; exact ⟨fun _ => hK,fun e => by cases e⟩
  | false => cases h; exact ⟨fun e => (by cases e),fun _ => hK⟩
 cases x with
 | bool a =>
  cases y with
  | bool b => cases h; exact hK
  | _ =>
   refine ⟨fun e => ?_,fun e => ?_⟩
   ·subst e; cases h; exact hK
   ·subst e; cases h; rw [force_eq]; exact hK
 | _ => exact gen _ h
def fillAB (lay : List (Nat × Nat)) : List (Nat × AV) -> List AV -> Option (List AV)
 | [],cs => some cs
 | (i,v) :: rest,cs =>
  match nth lay i with
  | some (off,size) => match and (and (Nat.beq (lenL (cells v)) size) (Nat.ble (off + size) (lenL cs))) (ones (cells v)) with
   | true => fillAB lay rest (appL (takeL off cs) (appL (cells v) (dropL (off + size) cs)))
   | false => none
  | none => none
theorem fillAB_ok (lay : List (Nat × Nat)) : ∀ (ps : List (Nat × AV)) (cs : List AV),Gives (fillAB lay ps cs) (fillA lay ps cs)
 | [],cs => Gives.forceL cs
 | (i,v) :: ps,cs => by
   intro u h K hK
   unfold fillAB at h
   unfold fillA
   cases hn : nth lay i with
   | none => rw [hn] at h; cases h
   | some p =>
    rw [hn] at h
    simp only at h ⊢
    cases hb : and (and (Nat.beq (lenL (cells v)) p.2) (Nat.ble (p.1 + p.2) (lenL cs))) (ones (cells v)) with
    | false => rw [hb] at h; cases h
    | true => rw [hb] at h; exact fillAB_ok lay ps _ u h K hK
def fillOB : List (Nat × AV) -> List AV -> Option (List AV)
 | [],cs => some cs
 | (i,v) :: rest,cs => match and (one v) (Nat.ble (i + 1) (lenL cs)) with
  | true => fillOB rest (cs.set i v)
  | false => none
theorem fillOB_ok : ∀ (ps : List (Nat × AV)) (cs : List AV),Gives (fillOB ps cs) (fillO ps cs)
 | [],cs => Gives.forceL cs
 | (i,v) :: ps,cs => by
   intro u h K hK
   unfold fillOB at h
   unfold fillO
   rw [force_eq]
   cases hb : and (one v) (Nat.ble (i + 1) (lenL cs)) with
   | false => rw [hb] at h; cases h
   | true => rw [hb] at h; exact fillOB_ok ps _ u h K hK
def fillRB (hp : Nat -> Option Blk) (size : Nat) : List (Nat × AV) -> List (List AV) -> Option (List (List AV))
 | [],rows => some rows
 | (i,v) :: rest,rows => (toDsB hp (cells v)).bind fun cs =>
  match and (Nat.beq (lenL cs) size) (Nat.ble (i + 1) rows.length) with
  | true => fillRB hp size rest (rows.set i cs)
  | false => none
theorem fillRB_ok (hp : Nat -> Option Blk) (size : Nat) : ∀ (ps : List (Nat × AV)) (rows : List (List AV)),Gives (fillRB hp size ps rows) (fillR hp size ps rows)
 | [],rows => Gives.one _
 | (i,v) :: ps,rows => by
   refine (toDsB_ok hp (cells v)).bind fun cs => ?_
   intro u h K hK
   cases hb : and (Nat.beq (lenL cs) size) (Nat.ble (i + 1) rows.length) with
   | false => rw [hb] at h; cases h
   | true => rw [hb] at h; exact fillRB_ok hp size ps _ u h K hK
def rdB (ag : Bool) (sz : Nat) (row : List AV) (o : Nat) : Option AV :=
 match ag with
 | false => nth row o
 | true => match Nat.ble (o + sz) (lenL row) with
  | true => some (.agg (takeL sz (dropL o row)))
  | false => none
theorem rdB_ok (ag : Bool) (sz : Nat) (row : List AV) (o : Nat) : Gives (rdB ag sz row o) (rd ag sz row o):=by
 intro v h K hK
 unfold rdB at h
 unfold rd
 cases ag with
 | false =>
  simp only at h ⊢
  rw [h]
  simp only [force_eq]
  exact hK
 | true =>
  simp only at h ⊢
  cases hb : Nat.ble (o + sz) (lenL row) with
  | false => rw [hb] at h; cases h
  | true => rw [hb] at h; cases h; simp only [forceL_eq]; exact hK
def limB {α : Type} (lim : Option (Nat -> Bool)) (k : Nat) (x : Option α) : Option α:=match lim with | none => x | some p => guardB (p k) x
theorem limB_ok {α : Type} {lim : Option (Nat -> Bool)} {k : Nat} {x : Option α} {φ : (α -> Prop) -> Prop} (h : Gives x φ) : Gives (limB lim k x) (fun K => inLim lim k (φ K)):=by
 cases lim with
 | none => exact h
 | some p => exact Gives.chk (C:=p k = true) (fun e => e) h
variable (T : List (Nat × TyI)) (gl : List (Nat × AV))
def aLoadB (lim : Option (Nat -> Bool)) (t : TypeId) (a : AV) (s : St) : Option AV :=
 match look T t with
 | none => none
 | some i => match a with
  | .bp k o => limB lim k (match s.hp k with | some (.box cs) => rdB i.ag i.sz cs o | some (.own _ cs) => rdB i.ag i.sz cs o | _ => none)
  | .ap k r o => limB lim k (match s.hp k with | some (.arr _ rows _) => (rows[r]?).bind fun row => rdB i.ag i.sz row o | _ => none)
  | .er row o => rdB i.ag i.sz row o
  | _ => none
theorem getE {α β : Type} {o : Option β} {f : β -> Option α} {φ : β -> (α -> Prop) -> Prop} (h : ∀ b,Gives (f b) (φ b)) : Gives (o.bind f) (fun K => ∃ b,o = some b∧φ b K):=by
 intro v hv K hK
 obtain ⟨b,h1,h2⟩:=Option.bind_eq_some_iff.1 hv
 exact ⟨b,h1,h b v h2 K hK⟩
theorem aLoadB_ok (lim : Option (Nat -> Bool)) (t : TypeId) (a : AV) (s : St) : Gives (aLoadB T lim t a s) (aLoad T lim t a s):=by
 unfold aLoadB aLoad
 cases look T t with
 | none => exact Gives.none
 | some i =>
  cases a with
  | bp k o =>
   refine limB_ok (φ:=fun K => match s.hp k with | some (.box cs) => rd i.ag i.sz cs o K | some (.own _ cs) => rd i.ag i.sz cs o K | _ => False) ?_
   cases s.hp k with
   | none => exact Gives.none
   | some b => cases b <;> first | exact rdB_ok _ _ _ _ | exact Gives.none
  | ap k r o =>
   refine limB_ok (φ:=fun K => match s.hp k with | some (.arr _ rows _) => ∃ row,rows[r]? = some row∧rd i.ag i.sz row o K | _ => False) ?_
   cases s.hp k with
   | none => exact Gives.none
   | some b => cases b <;> first | exact Gives.none | exact getE fun row => rdB_ok _ _ _ _
  | er row o => exact rdB_ok _ _ _ _
  | _ => exact Gives.none
def aStoreB (t : TypeId) (a v : AV) (s : St) : Option St :=
 match look T t with
 | none => none
 | some i => match Nat.beq i.sz (lenL (cells v)) with
  | false => none
  | true => match a with
   | .bp k o => match s.hp k with
    | some (.box cs) => match and (ones (cells v)) (Nat.ble (o + lenL (cells v)) (lenL cs)) with
     | true => forceVs (appL (takeL o cs) (appL (cells v) (dropL (o + lenL (cells v)) cs))) fun cs => some (setB k (some (.box cs)) s)
     | false => none
    | some (.own et cs) => match and (ones (cells v)) (Nat.ble (o + lenL (cells v)) (lenL cs)) with
     | true => forceVs (appL (takeL o cs) (appL (cells v) (dropL (o + lenL (cells v)) cs))) fun cs => some (setB k (some (.own et cs)) s)
     | false => none
    | _ => none
   | .ap k r o => match s.hp k with
    | some (.arr sz rows true) => (rows[r]?).bind fun row => (toDsB (upd k none s.hp) (cells v)).bind fun cs => match Nat.ble (o + lenL cs) (lenL row) with
      | true => forceRs (rows.set r (appL (takeL o row) (appL cs (dropL (o + lenL cs) row)))) fun rows => some (setB k (some (.arr sz rows true)) ⟨s.tm,frz (keysL (cells v)) s.hp,s.nx⟩)
      | false => none
    | _ => none
   | _ => none
theorem aStoreB_ok (t : TypeId) (a v : AV) (s : St) : Gives (aStoreB T t a v s) (aStore T t a v s):=by
 unfold aStoreB aStore
 cases look T t with
 | none => exact Gives.none
 | some i =>
  simp only
  cases Nat.beq i.sz (lenL (cells v)) with
  | false => exact Gives.none
  | true =>
   cases a with
   | bp k o =>
    simp only
    cases s.hp k with
    | none => exact Gives.none
    | some b =>
     cases b with
     | box cs =>
      simp only
      cases and (ones (cells v)) (Nat.ble (o + lenL (cells v)) (lenL cs)) with
      | false => exact Gives.none
      | true => simp only [forceVs_eq,forceL_eq]; exact Gives.one _
     | own et cs =>
      simp only
      cases and (ones (cells v)) (Nat.ble (o + lenL (cells v)) (lenL cs)) with
      | false => exact Gives.none
      | true => simp only [forceVs_eq,forceL_eq]; exact Gives.one _
     | _ => exact Gives.none
   | ap k r o =>
    simp only
    cases s.hp k with
    | none => exact Gives.none
    | some b =>
     cases b with
     | arr sz rows lv =>
      cases lv with
      | false => exact Gives.none
      | true =>
       refine getE fun row => (toDsB_ok _ _).bind fun cs => ?_
       cases Nat.ble (o + lenL cs) (lenL row) with
       | false => exact Gives.none
       | true => simp only [forceRs_eq,forceL_eq]; exact Gives.one _
     | _ => exact Gives.none
   | _ => exact Gives.none
def lenOfB (x : AV) : Option Nat :=
 match x with
 | .sl rows => some rows.length
 | .nil => some 0
 | .ms _ _ n => some n
 | _ => none
theorem lenOfB_ok (x : AV) : Gives (lenOfB x) (lenOf x):=by
 cases x <;> first | exact Gives.one _ | exact Gives.none
def rowsB (sz : Nat) : List (List AV) -> Bool
 | [] => true
 | r :: rs => and (Nat.beq (lenL r) sz) (rowsB sz rs)
theorem rowsB_ok {sz : Nat} : ∀ {rows : List (List AV)},rowsB sz rows = true -> RowsOk sz rows
 | [],_ => fun r hr => by cases hr
 | r :: rs,h => fun q hq => by
   simp only [rowsB,Bool.and_eq_true] at h
   rcases List.mem_cons.1 hq with e | hq
   ·rw [e]; have:=Nat.eq_of_beq_eq_true h.1; rwa [lenL_eq] at this
   ·exact rowsB_ok h.2 q hq
def aIndexB (t : TypeId) (x i : AV) : Option AV :=
 match look T t with
 | none => none
 | some ty => match ty.arr with
  | none => none
  | some (n,_) => match ty.ael.bind (look T) with
   | none => none
   | some e => match and (Nat.beq e.sz 1) (not e.ag) with
    | false => match e.ag with
     | false => none
     | true => match x with
          | .agg cs => match i with
           | .int _ i => guardB (dec (0 <= i)) (guardB (dec (i < n)) (rdB true e.sz cs (i.toNat * e.sz)))
           | _ => none
          | _ => none
    | true => match x with
     | .agg cs => match i with
          | .int _ i => guardB (dec (0 <= i)) (guardB (dec (i < n)) ((cs[i.toNat]?).bind fun v => some v))
          | _ => none
     | _ => none
theorem aIndexB_ok (t : TypeId) (x i : AV) : Gives (aIndexB T t x i) (aIndex T t x i):=by
 unfold aIndexB aIndex
 cases look T t with
 | none => exact Gives.none
 | some ty =>
  simp only
  cases ty.arr with
  | none => exact Gives.none
  | some p =>
   simp only
   cases ty.ael.bind (look T) with
   | none => exact Gives.none
   | some e =>
    simp only
    cases and (Nat.beq e.sz 1) (not e.ag) with
    | false =>
     simp only
     cases e.ag with
     | false => exact Gives.none
     | true => cases x <;> first | exact Gives.none | (cases i <;> first | exact Gives.none | exact Gives.chk dec_ok (Gives.chk dec_ok (rdB_ok _ _ _ _)))
    | true =>
     cases x with
     | agg cs => cases i <;> first | exact Gives.none | exact Gives.chk dec_ok (Gives.chk dec_ok (getE fun v => Gives.force v))
     | _ => exact Gives.none
def aIndexUB (t : TypeId) (x i : AV) : Option AV :=
 match x with
 | .str b => match look T t with
  | none => none
  | some ty => match ty.st with
   | false => none
   | true => match i with
    | .int _ i => guardB (dec (0 <= i)) ((b[i.toNat]?).bind fun c => some (.int .u8 c.toNat))
    | _ => none
 | x => aIndexB T t x i
theorem aIndexUB_ok (t : TypeId) (x i : AV) : Gives (aIndexUB T t x i) (aIndexU T t x i):=by
 unfold aIndexUB aIndexU
 cases x with
 | str b =>
  simp only
  unfold aIndexS
  cases look T t with
  | none => exact Gives.none
  | some ty =>
   simp only
   cases ty.st with
   | false => exact Gives.none
   | true => cases i <;> first | exact Gives.none | exact Gives.chk dec_ok (getE fun v => Gives.one _)
 | _ => exact aIndexB_ok T t _ _
def aFieldB (t : TypeId) (x : AV) (f : Nat) : Option AV :=
 match look T t with
 | none => none
 | some i => match i.fo with
  | false => none
  | true => match nth i.lay f with
   | none => none
   | some (off,size) => match nth i.fag f with
    | none => none
    | some ag => match x with
     | .agg cs => rdB ag size cs off
     | _ => none
theorem aFieldB_ok (t : TypeId) (x : AV) (f : Nat) : Gives (aFieldB T t x f) (aField T t x f):=by
 unfold aFieldB aField
 cases look T t with
 | none => exact Gives.none
 | some i =>
  simp only
  cases i.fo with
  | false => exact Gives.none
  | true =>
   simp only
   cases nth i.lay f with
   | none => exact Gives.none
   | some p =>
    simp only
    cases nth i.fag f with
    | none => exact Gives.none
    | some ag => cases x <;> first | exact rdB_ok _ _ _ _ | exact Gives.none
def hiB (hi : Option AV) (n : Nat) : Option Nat :=
 match hi with
 | none => some n
 | some (.int _ h) => guardB (dec (0 <= h)) (guardB (dec (h <= n)) (some h.toNat))
 | _ => none
def loB (lo : Option AV) (h : Nat) : Option Nat :=
 match lo with
 | none => some 0
 | some (.int _ l) => guardB (dec (0 <= l)) (guardB (dec (l <= h)) (some l.toNat))
 | _ => none
def sliceEndB (lim : Option (Nat -> Bool)) (sz : Nat) (x : AV) (s : St) (h l : Nat) : Option AV :=
 match x with
 | .sl rows => guardB (rowsB sz rows) (some (.sl ((rows.take h).drop l)))
 | .ms k off _ => limB lim k (match s.hp k with
  | some (.arr sz' _ _) => match Nat.beq sz'.2 sz with
   | true => some (.ms k (off + l) (h - l))
   | false => none
  | some (.own _ _) => match Nat.beq 1 sz with
   | true => some (.ms k (off + l) (h - l))
   | false => none
  | _ => none)
 | .nil => some .nil
 | _ => none
def aSliceArrB (lim : Option (Nat -> Bool)) (t : TypeId) (x : AV) (s : St) : Option AV :=
 match (look T t).bind fun i => i.arr with
 | some (n,1) => match x with
  | .bp k 0 => limB lim k (match s.hp k with
   | some (.box cs) => match Nat.beq (lenL cs) n with
    | true => some (.ms k 0 n)
    | false => none
   | _ => none)
  | _ => none
 | _ => none
theorem aSliceArrB_ok (lim : Option (Nat -> Bool)) (t : TypeId) (x : AV) (s : St) : Gives (aSliceArrB T lim t x s) (aSliceArr T lim t x s):=by
 unfold aSliceArrB aSliceArr
 cases (look T t).bind fun i => i.arr with
 | none => exact Gives.none
 | some p =>
  obtain ⟨n,z⟩:=p
  match z with
  | 0 => exact Gives.none
  | z + 2 => exact Gives.none
  | 1 =>
   cases x with
   | bp k o =>
    cases o with
    | zero =>
     refine limB_ok (φ:=fun K : AV -> Prop => match s.hp k with
      | some (.box cs) => match Nat.beq (lenL cs) n with
       | true => K (.ms k 0 n)
       | false => False
      | _ => False) ?_
     cases s.hp k with
     | none => exact Gives.none
     | some b =>
      cases b with
      | box cs => simp only; cases Nat.beq (lenL cs) n <;> first | exact Gives.none | exact Gives.one _
      | _ => exact Gives.none
    | succ o => exact Gives.none
   | _ => exact Gives.none
def aSliceB (lim : Option (Nat -> Bool)) (t : TypeId) (x : AV) (lo hi : Option AV) (s : St) : Option AV :=
 match ((look T t).bind fun i => i.sl).bind (look T) with
 | none => match lo,hi with
  | none,none => aSliceArrB T lim t x s
  | _,_ => none
 | some e => (lenOfB x).bind fun n => (hiB hi n).bind fun h => (loB lo h).bind fun l => sliceEndB lim e.sz x s h l
theorem aSliceB_ok (lim : Option (Nat -> Bool)) (t : TypeId) (x : AV) (lo hi : Option AV) (s : St) : Gives (aSliceB T lim t x lo hi s) (aSlice T lim t x lo hi s):=by
 unfold aSliceB aSlice
 cases ((look T t).bind fun i => i.sl).bind (look T) with
 | none => cases lo <;> cases hi <;> first | exact aSliceArrB_ok T lim t x s | exact Gives.none
 | some e =>
  refine (lenOfB_ok x).bind fun n => ?_
  have hend : ∀ h l,Gives (sliceEndB lim e.sz x s h l) (fun K : AV -> Prop => match x with
    | .sl rows => RowsOk e.sz rows∧K (.sl ((rows.take h).drop l))
    | .ms k off _ => inLim lim k (match s.hp k with
     | some (.arr sz _ _) => match Nat.beq sz.2 e.sz with
      | true => K (.ms k (off + l) (h - l))
      | false => False
     | some (.own _ _) => match Nat.beq 1 e.sz with
      | true => K (.ms k (off + l) (h - l))
      | false => False
     | _ => False)
    | .nil => K .nil
    | _ => False):=by
   intro h l
   unfold sliceEndB
   cases x with
   | sl rows => exact Gives.chk rowsB_ok (Gives.one _)
   | nil => exact Gives.one _
   | ms k off n =>
    refine limB_ok (φ:=fun K : AV -> Prop => match s.hp k with
     | some (.arr sz _ _) => match Nat.beq sz.2 e.sz with
      | true => K (.ms k (off + l) (h - l))
      | false => False
     | some (.own _ _) => match Nat.beq 1 e.sz with
      | true => K (.ms k (off + l) (h - l))
      | false => False
     | _ => False) ?_
    cases s.hp k with
    | none => exact Gives.none
    | some b =>
     cases b with
     | res => first | exact hK.elim | (rw [hb] at hK; exact hK.elim) | exact h.elim | (rw [hb] at h; exact h.elim) | (rw [hb] at hK2; exact hK2.elim) | (rw [hb] at hK; simp only at hK; exact hK.elim) | exact Sel.no | exact Gives.none | exact Give2.none | exact toDB_ok hp (.ms k off len) | (have:=Sel.toD (hp:=hp) (.ms k off len); exact this) | exact .inl rfl | (cases hK; done) | (cases h; done)
     | mp _ => first | exact hK.elim | (rw [hb] at hK; exact hK.elim) | exact h.elim | (rw [hb] at h; exact h.elim) | (rw [hb] at hK2; exact hK2.elim) | (rw [hb] at hK; simp only at hK; exact hK.elim) | exact Sel.no | exact Gives.none | exact Give2.none | exact toDB_ok hp (.ms k off len) | (have:=Sel.toD (hp:=hp) (.ms k off len); exact this) | exact .inl rfl | (cases hK; done) | (cases h; done)
     | box _ => exact Gives.none
     | own _ _ => simp only; cases Nat.beq 1 e.sz <;> first | exact Gives.none | exact Gives.one _
     | arr sz _ _ => simp only; cases Nat.beq sz.2 e.sz <;> first | exact Gives.none | exact Gives.one _
   | _ => exact Gives.none
  have hlo : ∀ h,Gives ((loB lo h).bind fun l => sliceEndB lim e.sz x s h l) (fun K : AV -> Prop => (match lo with
   | none => fun k : Nat -> Prop => k 0
   | some (.int _ l) => fun k => 0 <= l∧l <= (h : Int)∧k l.toNat
   | _ => fun _ => False) fun l => match (generalizing:=false) x with
    | .sl rows => RowsOk e.sz rows∧K (.sl ((rows.take h).drop l))
    | .ms k off _ => inLim lim k (match s.hp k with
     | some (.arr sz _ _) => match Nat.beq sz.2 e.sz with
      | true => K (.ms k (off + l) (h - l))
      | false => False
     | some (.own _ _) => match Nat.beq 1 e.sz with
      | true => K (.ms k (off + l) (h - l))
      | false => False
     | _ => False)
    | .nil => K .nil
    | _ => False):=by
   intro h
   unfold loB
   cases lo with
   | none => exact hend h 0
   | some v =>
    cases v with
    | int k l =>
     intro u hu K hK
     obtain ⟨l',h1,h2⟩:=Option.bind_eq_some_iff.1 hu
     obtain ⟨g1,h1⟩:=guardB_some h1
     obtain ⟨g2,h1⟩:=guardB_some h1
     cases h1
     exact ⟨dec_ok g1,dec_ok g2,hend h l.toNat u h2 K hK⟩
    | _ => exact Gives.none
  unfold hiB
  cases hi with
  | none => exact hlo n
  | some v =>
   cases v with
   | int k h =>
    intro u hu K hK
    obtain ⟨h',h1,h2⟩:=Option.bind_eq_some_iff.1 hu
    obtain ⟨g1,h1⟩:=guardB_some h1
    obtain ⟨g2,h1⟩:=guardB_some h1
    cases h1
    exact ⟨dec_ok g1,dec_ok g2,hlo h.toNat u h2 K hK⟩
   | _ => exact Gives.none
def arrAtB (ty : TyI) (i : Int) (f : Nat -> AV) : Option AV :=
 match ty.arr with
 | some (n,Nat.succ sz) => guardB (dec (0 <= i)) (guardB (dec (i < n)) (some (f (i.toNat * Nat.succ sz))))
 | _ => none
def aIndexAddrB (lim : Option (Nat -> Bool)) (t : TypeId) (x i : AV) (s : St) : Option AV :=
 match look T t with
 | none => none
 | some ty => match i with
  | .int _ i => match x with
   | .sl rows => match ty.sl.bind (look T) with
    | some e => guardB (dec (0 <= i)) ((rows[i.toNat]?).bind fun row => match Nat.beq (lenL row) e.sz with | true => some (.er row 0) | false => none)
    | none => none
   | .ms k off n => match ty.sl.bind (look T) with
    | some e => limB lim k (match s.hp k with
     | some (.arr sz _ _) => match Nat.beq sz.2 e.sz with
      | true => guardB (dec (0 <= i)) (guardB (dec (i < n)) (some (.ap k (off + i.toNat) 0)))
      | false => none
     | some (.own _ _) => match Nat.beq 1 e.sz with
      | true => guardB (dec (0 <= i)) (guardB (dec (i < n)) (some (.bp k (off + i.toNat))))
      | false => none
     | some (.box _) => match Nat.beq 1 e.sz with
      | true => guardB (dec (0 <= i)) (guardB (dec (i < n)) (some (.bp k (off + i.toNat))))
      | false => none
     | _ => none)
    | none => none
   | .bp k o => arrAtB ty i fun q => .bp k (o + q)
   | .ap k r o => arrAtB ty i fun q => .ap k r (o + q)
   | .er row o => arrAtB ty i fun q => .er row (o + q)
   | _ => none
  | _ => none
theorem aIndexAddrB_ok (lim : Option (Nat -> Bool)) (t : TypeId) (x i : AV) (s : St) : Gives (aIndexAddrB T lim t x i s) (aIndexAddr T lim t x i s):=by
 unfold aIndexAddrB aIndexAddr
 cases look T t with
 | none => exact Gives.none
 | some ty =>
  cases i with
  | int ik i =>
   have harr : ∀ f : Nat -> AV,Gives (arrAtB ty i f) (fun K : AV -> Prop => match ty.arr with | some (n,Nat.succ sz) => 0 <= i∧i < n∧K (f (i.toNat * Nat.succ sz)) | _ => False):=by
    intro f
    unfold arrAtB
    cases ty.arr with
    | none => exact Gives.none
    | some p =>
     obtain ⟨n,sz⟩:=p
     cases sz with
     | zero => exact Gives.none
     | succ sz => exact Gives.chk dec_ok (Gives.chk dec_ok (Gives.one _))
   cases x with
   | sl rows =>
    simp only
    cases ty.sl.bind (look T) with
    | none => exact Gives.none
    | some e =>
     refine Gives.chk dec_ok (getE fun row => ?_)
     cases Nat.beq (lenL row) e.sz <;> first | exact Gives.none | exact Gives.one _
   | ms k off n =>
    simp only
    cases ty.sl.bind (look T) with
    | none => exact Gives.none
    | some e =>
     refine limB_ok (φ:=fun K : AV -> Prop => match s.hp k with
     | some (.arr sz _ _) => match Nat.beq sz.2 e.sz with
      | true => 0 <= i∧i < n∧K (.ap k (off + i.toNat) 0)
      | false => False
     | some (.own _ _) => match Nat.beq 1 e.sz with
      | true => 0 <= i∧i < n∧K (.bp k (off + i.toNat))
      | false => False
     | some (.box _) => match Nat.beq 1 e.sz with
      | true => 0 <= i∧i < n∧K (.bp k (off + i.toNat))
      | false => False
     | _ => False) ?_
     cases s.hp k with
     | none => exact Gives.none
     | some b =>
      cases b with
      | res => first | exact hK.elim | (rw [hb] at hK; exact hK.elim) | exact h.elim | (rw [hb] at h; exact h.elim) | (rw [hb] at hK2; exact hK2.elim) | (rw [hb] at hK; simp only at hK; exact hK.elim) | exact Sel.no | exact Gives.none | exact Give2.none | exact toDB_ok hp (.ms k off len) | (have:=Sel.toD (hp:=hp) (.ms k off len); exact this) | exact .inl rfl | (cases hK; done) | (cases h; done)
      | mp _ => first | exact hK.elim | (rw [hb] at hK; exact hK.elim) | exact h.elim | (rw [hb] at h; exact h.elim) | (rw [hb] at hK2; exact hK2.elim) | (rw [hb] at hK; simp only at hK; exact hK.elim) | exact Sel.no | exact Gives.none | exact Give2.none | exact toDB_ok hp (.ms k off len) | (have:=Sel.toD (hp:=hp) (.ms k off len); exact this) | exact .inl rfl | (cases hK; done) | (cases h; done)
      | box _ => simp only; cases Nat.beq 1 e.sz <;> first | exact Gives.none | exact Gives.chk dec_ok (Gives.chk dec_ok (Gives.one _))
      | own _ _ => simp only; cases Nat.beq 1 e.sz <;> first | exact Gives.none | exact Gives.chk dec_ok (Gives.chk dec_ok (Gives.one _))
      | arr sz _ _ => simp only; cases Nat.beq sz.2 e.sz <;> first | exact Gives.none | exact Gives.chk dec_ok (Gives.chk dec_ok (Gives.one _))
   | bp k o => exact harr fun q => .bp k (o + q)
   | ap k r o => exact harr fun q => .ap k r (o + q)
   | er k o => exact harr fun q => .er k (o + q)
   | _ => exact Gives.none
  | _ => exact Gives.none
def aFieldAddrB (t : TypeId) (x : AV) (f : Nat) : Option AV :=
 match (look T t).bind fun i => nth i.lay f with
 | some (off,Nat.succ _) => match x with
  | .bp k o => some (.bp k (Nat.add o off))
  | .ap k r o => some (.ap k r (Nat.add o off))
  | .er row o => some (.er row (Nat.add o off))
  | _ => none
 | _ => none
theorem aFieldAddrB_ok (t : TypeId) (x : AV) (f : Nat) : Gives (aFieldAddrB T t x f) (aFieldAddr T t x f):=by
 unfold aFieldAddrB aFieldAddr
 cases (look T t).bind fun i => nth i.lay f with
 | none => exact Gives.none
 | some p =>
  obtain ⟨off,sz⟩:=p
  cases sz with
  | zero => exact Gives.none
  | succ sz => cases x <;> first | exact Gives.none | exact Gives.one _
def rowsOfB (hp : Nat -> Option Blk) (sz : Nat) (y : AV) : Option (List (List AV)) :=
 match y with
 | .nil => some []
 | .sl rows => guardB (rowsB sz rows) (some rows)
 | .ms k off n => match hp k with
  | some (.arr sz' rows _) => match Nat.beq sz sz'.2 with
   | false => none
   | true => guardB (Nat.ble (off + n) rows.length) (some ((rows.drop off).take n))
  | _ => none
 | _ => none
theorem rowsOfB_ok (hp : Nat -> Option Blk) (sz : Nat) (y : AV) : Gives (rowsOfB hp sz y) (rowsOf hp sz y):=by
 unfold rowsOfB rowsOf
 cases y with
 | nil => exact Gives.one _
 | sl rows => exact Gives.chk rowsB_ok (Gives.one _)
 | ms k off n =>
  simp only
  cases hp k with
  | none => exact Gives.none
  | some b =>
   cases b with
   | arr sz' rows lv =>
    simp only
    cases Nat.beq sz sz'.2 with
    | false => exact Gives.none
    | true => exact Gives.chk ble_le (Gives.one _)
   | _ => exact Gives.none
 | _ => exact Gives.none
def cellsOfB (hp : Nat -> Option Blk) (y : AV) : Option (List AV) :=
 match y with
 | .nil => some []
 | .sl rows => guardB (rowsB 1 rows) (some rows.flatten)
 | .ms k off n => match hp k with
  | some (.own _ cs) => guardB (Nat.ble (off + n) cs.length) (some ((cs.drop off).take n))
  | some (.arr sz rows _) => match Nat.beq 1 sz.2 with
   | true => guardB (Nat.ble (off + n) rows.length) (some ((rows.drop off).take n).flatten)
   | false => none
  | _ => none
 | _ => none
theorem cellsOfB_ok (hp : Nat -> Option Blk) (y : AV) : Gives (cellsOfB hp y) (cellsOf hp y):=by
 unfold cellsOfB cellsOf
 cases y with
 | nil => exact Gives.one _
 | sl rows => exact Gives.chk rowsB_ok (Gives.one _)
 | ms k off n =>
  simp only
  cases hp k with
  | none => exact Gives.none
  | some b =>
   cases b with
   | own et cs => simp only [forceL_eq]; exact Gives.chk ble_le (Gives.one _)
   | arr sz rows lv =>
    simp only
    cases Nat.beq 1 sz.2 with
    | false => exact Gives.none
    | true => exact Gives.chk ble_le (Gives.one _)
   | _ => exact Gives.none
 | _ => exact Gives.none
def Give2 (x : Option (AV × St)) (φ : (AV -> St -> Prop) -> Prop) : Prop:=∀ v s,x = some (v,s) -> ∀ K : AV -> St -> Prop,K v s -> φ K
theorem Give2.one (v : AV) (s : St) : Give2 (some (v,s)) (fun K => K v s):=fun u s' h K hK => by cases h; exact hK
theorem Give2.none {φ : (AV -> St -> Prop) -> Prop} : Give2 Option.none φ:=fun u s h => by cases h
theorem Give2.chk {c : Bool} {C : Prop} {x : Option (AV × St)} {φ : (AV -> St -> Prop) -> Prop} (hc : c = true -> C) (h : Give2 x φ) : Give2 (guardB c x) (fun K => C∧φ K):=fun u s hu K hK => by
 obtain ⟨h1,h2⟩:=guardB_some hu
 exact ⟨hc h1,h u s h2 K hK⟩
theorem Give2.bind {α : Type} {x : Option α} {φ : (α -> Prop) -> Prop} {f : α -> Option (AV × St)} {ψ : α -> (AV -> St -> Prop) -> Prop} (h : Gives x φ) (g : ∀ a,Give2 (f a) (ψ a)) : Give2 (x.bind f) (fun K => φ fun a => ψ a K):=fun u s hu K hK => by
 obtain ⟨a,h1,h2⟩:=Option.bind_eq_some_iff.1 hu
 exact h a h1 _ (g a u s h2 K hK)
def notNil {α : Type} : List α -> Bool | [] => false | _ => true
theorem notNil_ok {α : Type} {l : List α} (h : notNil l = true) : l ≠ []:=by rintro rfl; cases h
def aAppendOB (et : Nat) (by_ : Nat) (x y : AV) (s : St) : Option (AV × St) :=
 match x with
 | .nil => match y with
  | .nil => some (.nil,s)
  | y => (cellsOfB s.hp y).bind fun cs => guardB (notNil cs) (guardB (Nat.ble (cs.length * by_) 140737488355328) (guardB (Nat.ble cs.length maxLen) (forceVs cs fun cs => some (.ms s.nx 0 cs.length,alloc (.own et cs) s))))
 | .ms k 0 n => match s.hp k with
  | some (.own et' cs) => match Nat.beq et' et with
   | true => guardB (Nat.beq n cs.length) ((cellsOfB s.hp y).bind fun cs' => guardB (Nat.ble ((n + cs'.length) * by_) 140737488355328) (guardB (Nat.ble (n + cs'.length) maxLen)
     (forceVs (appL cs cs') fun cs2 => some (.ms s.nx 0 (n + cs'.length),alloc (.own et cs2) (setB k none s)))))
   | false => none
  | _ => none
 | _ => none
theorem aAppendOB_ok (et by_ : Nat) (x y : AV) (s : St) : Give2 (aAppendOB et by_ x y s) (aAppendO et by_ x y s):=by
 unfold aAppendOB aAppendO
 cases x with
 | nil =>
  have main : Give2 ((cellsOfB s.hp y).bind fun cs => guardB (notNil cs) (guardB (Nat.ble (cs.length * by_) 140737488355328) (guardB (Nat.ble cs.length maxLen) (forceVs cs fun cs => some (.ms s.nx 0 cs.length,alloc (.own et cs) s)))))
    (fun K => cellsOf s.hp y fun cs => cs ≠ []∧cs.length * by_ <= 140737488355328∧cs.length <= maxLen∧K (.ms s.nx 0 cs.length) (alloc (.own et cs) s)):=by
   refine Give2.bind (cellsOfB_ok _ _) fun cs => Give2.chk notNil_ok (Give2.chk ble_le (Give2.chk ble_le ?_))
   rw [forceVs_eq]
   exact Give2.one _ _
  cases y with
  | nil => exact Give2.one _ _
  | _ => exact main
 | ms k off n =>
  cases off with
  | succ off => exact Give2.none
  | zero =>
   simp only
   cases s.hp k with
   | none => exact Give2.none
   | some b =>
    cases b with
    | own et' cs =>
     simp only
     cases Nat.beq et' et with
     | false => exact Give2.none
     | true =>
      refine Give2.chk Nat.eq_of_beq_eq_true (Give2.bind (cellsOfB_ok _ _) fun cs' => Give2.chk ble_le (Give2.chk ble_le ?_))
      simp only [forceVs_eq,forceL_eq]
      exact Give2.one _ _
    | _ => exact Give2.none
 | _ => exact Give2.none
def aAppendB (t : TypeId) (x y : AV) (s : St) : Option (AV × St) :=
 match (look T t).bind fun i => i.sl with
 | none => none
 | some et => match look T et with
  | none => none
  | some e => match Nat.ble 1 e.sz with
   | false => none
   | true => match e.sl with
    | some _ => match Nat.beq e.sz 1 with
     | true => aAppendOB et e.by_ x y s
     | false => none
    | none => match x with
     | .nil => match y with
      | .nil => some (.nil,s)
      | .sl rows => guardB (Nat.ble (rows.length * e.by_) 140737488355328) (guardB (Nat.ble rows.length maxLen) (guardB (rowsB e.sz rows) (some (.sl rows,s))))
      | .ms _ _ n => guardB (Nat.blt 0 n) (guardB (Nat.ble (n * e.by_) 140737488355328) (guardB (Nat.ble n maxLen) ((rowsOfB s.hp e.sz y).bind fun rows => forceRs rows fun rows => some (.ms s.nx 0 n,alloc (.arr (et,e.sz) rows true) s))))
      | _ => none
     | .ms k 0 n => match s.hp k with
      | some (.arr sz rows true) => match and (Nat.beq sz.1 et) (Nat.beq sz.2 e.sz) with
       | true => guardB (Nat.beq n rows.length) ((rowsOfB s.hp e.sz y).bind fun rows' => guardB (Nat.ble ((n + rows'.length) * e.by_) 140737488355328) (guardB (Nat.ble (n + rows'.length) maxLen)
             (forceRs (rows ++ rows') fun rows2 => some (.ms s.nx 0 (n + rows'.length),alloc (.arr (et,e.sz) rows2 true) (setB k none s)))))
       | false => none
      | _ => none
     | _ => none
theorem aAppendB_ok (t : TypeId) (x y : AV) (s : St) : Give2 (aAppendB T t x y s) (aAppend T t x y s):=by
 unfold aAppendB aAppend
 cases (look T t).bind fun i => i.sl with
 | none => exact Give2.none
 | some et =>
  simp only
  cases look T et with
  | none => exact Give2.none
  | some e =>
   simp only
   cases Nat.ble 1 e.sz with
   | false => exact Give2.none
   | true =>
    simp only
    cases e.sl with
    | some _ =>
     simp only
     cases Nat.beq e.sz 1 with
     | false => exact Give2.none
     | true => exact aAppendOB_ok _ _ _ _ _
    | none =>
     simp only
     cases x with
     | nil =>
      cases y with
      | nil => exact Give2.one _ _
      | sl rows => exact Give2.chk ble_le (Give2.chk ble_le (Give2.chk rowsB_ok (Give2.one _ _)))
      | ms k off n =>
       refine Give2.chk (fun h => Nat.le_of_ble_eq_true h) (Give2.chk ble_le (Give2.chk ble_le (Give2.bind (rowsOfB_ok _ _ _) fun rows => ?_)))
       rw [forceRs_eq]
       exact Give2.one _ _
      | _ => exact Give2.none
     | ms k off n =>
      cases off with
      | succ off => exact Give2.none
      | zero =>
       simp only
       cases s.hp k with
       | none => exact Give2.none
       | some b =>
        cases b with
        | arr sz rows lv =>
         cases lv with
         | false => exact Give2.none
         | true =>
          simp only
          cases and (Nat.beq sz.1 et) (Nat.beq sz.2 e.sz) with
          | false => exact Give2.none
          | true =>
           refine Give2.chk Nat.eq_of_beq_eq_true (Give2.bind (rowsOfB_ok _ _ _) fun rows' => Give2.chk ble_le (Give2.chk ble_le ?_))
           rw [forceRs_eq]
           exact Give2.one _ _
        | _ => exact Give2.none
     | _ => exact Give2.none
def aCopyB (t : TypeId) (x y : AV) (s : St) : Option (AV × St) :=
 match ((look T t).bind fun i => i.sl).bind (look T) with
 | none => none
 | some e => match Nat.beq e.sz 1 with
  | false => none
  | true => match x with
   | .ms k off n => match s.hp k with
    | some (.arr sz rows true) => match Nat.beq sz.2 1 with
     | false => none
     | true => (rowsOfB s.hp 1 y).bind fun rows' => guardB (Nat.ble (off + n) rows.length) (forceRs (rows.take off ++ rows'.take n ++ rows.drop (off + min rows'.length n)) fun rows2 =>
            some (.int .i64 (min rows'.length n : Nat),setB k (some (.arr sz rows2 true)) s))
    | _ => none
   | _ => none
theorem aCopyB_ok (t : TypeId) (x y : AV) (s : St) : Give2 (aCopyB T t x y s) (aCopy T t x y s):=by
 unfold aCopyB aCopy
 cases ((look T t).bind fun i => i.sl).bind (look T) with
 | none => exact Give2.none
 | some e =>
  simp only
  cases Nat.beq e.sz 1 with
  | false => exact Give2.none
  | true =>
   cases x with
   | ms k off n =>
    simp only
    cases s.hp k with
    | none => exact Give2.none
    | some b =>
     cases b with
     | arr sz rows lv =>
      cases lv with
      | false => exact Give2.none
      | true =>
       simp only
       cases Nat.beq sz.2 1 with
       | false => exact Give2.none
       | true =>
        refine Give2.bind (rowsOfB_ok _ _ _) fun rows' => Give2.chk ble_le ?_
        rw [forceRs_eq]
        exact Give2.one _ _
     | _ => exact Give2.none
   | _ => exact Give2.none
def aMinMaxB (mx : Bool) (vs : List AV) : Option AV :=
 match vs with
 | [.int k a,.int _ b] => match mx with
  | true => some (.int k (if a < b then b else a))
  | false => some (.int k (if b < a then b else a))
 | [.int k a,.int _ b,.int _ c] => some (.int k (mm2 mx (mm2 mx a b) c))
 | [.int k a,.int _ b,.int _ c,.int _ d] => some (.int k (mm2 mx (mm2 mx (mm2 mx a b) c) d))
 | _ => none
theorem aMinMaxB_ok (mx : Bool) (vs : List AV) : Gives (aMinMaxB mx vs) (aMinMax mx vs):=by
 intro v h K hK
 unfold aMinMaxB at h
 split at h
 ·unfold aMinMax
  cases mx <;> (cases h; exact hK)
 ·unfold aMinMax
  cases h; exact hK
 ·unfold aMinMax
  cases h; exact hK
 ·cases h
def aMakeSliceB (t : TypeId) (len cap : AV) (s : St) : Option (AV × St) :=
 match (look T t).bind fun i => i.sl with
 | none => none
 | some et => match look T et with
  | none => none
  | some e => match len with
   | .int _ n => match cap with
    | .int _ c => match e.sl with
     | some _ => match e.zv with
      | .nil => guardB (dec (0 <= n)) (guardB (dec (n <= c)) (guardB (dec (c * e.by_ <= 140737488355328)) (guardB (dec (c <= maxLen)) (forceVs (List.replicate n.toNat .nil) fun cs => some (.ms s.nx 0 n.toNat,alloc (.own et cs) s)))))
      | _ => none
     | none => (toDsB s.hp (cells e.zv)).bind fun row => match and (Nat.ble 1 e.sz) (Nat.beq (lenL row) e.sz) with
      | true => guardB (dec (0 <= n)) (guardB (dec (n <= c)) (guardB (dec (c * e.by_ <= 140737488355328)) (guardB (dec (c <= maxLen)) (forceRs (List.replicate n.toNat row) fun rows => some (.ms s.nx 0 n.toNat,alloc (.arr (et,e.sz) rows true) s)))))
      | false => none
    | _ => none
   | _ => none
theorem aMakeSliceB_ok (t : TypeId) (len cap : AV) (s : St) : Give2 (aMakeSliceB T t len cap s) (aMakeSlice T t len cap s):=by
 unfold aMakeSliceB aMakeSlice
 cases (look T t).bind fun i => i.sl with
 | none => exact Give2.none
 | some et =>
  simp only
  cases look T et with
  | none => exact Give2.none
  | some e =>
   cases len with
   | int k n =>
    cases cap with
    | int k' c =>
     simp only
     cases e.sl with
     | some _ =>
      simp only
      cases e.zv with
      | nil =>
       refine Give2.chk dec_ok (Give2.chk dec_ok (Give2.chk dec_ok (Give2.chk dec_ok ?_)))
       rw [forceVs_eq]
       exact Give2.one _ _
      | _ => exact Give2.none
     | none =>
      refine Give2.bind (toDsB_ok _ _) fun row => ?_
      cases and (Nat.ble 1 e.sz) (Nat.beq (lenL row) e.sz) with
      | false => exact Give2.none
      | true =>
       refine Give2.chk dec_ok (Give2.chk dec_ok (Give2.chk dec_ok (Give2.chk dec_ok ?_)))
       rw [forceRs_eq]
       exact Give2.one _ _
    | _ => exact Give2.none
   | _ => exact Give2.none
def aBuildSliceB (t : TypeId) (n : Nat) (ps : List (Nat × AV)) (s : St) : Option (AV × St) :=
 match (look T t).bind fun i => i.sl with
 | none => none
 | some et => match look T et with
  | none => none
  | some e => match e.sl with
   | some _ => match e.zv with
    | .nil => match Nat.ble n 65536 with
     | true => (fillOB ps (List.replicate n .nil)).bind fun cs => forceVs cs fun cs => some (.ms s.nx 0 n,alloc (.own et cs) s)
     | false => none
    | _ => none
   | none => (toDsB s.hp (cells e.zv)).bind fun row => match and (and (Nat.ble 1 e.sz) (Nat.beq (lenL row) e.sz)) (Nat.ble (n * e.sz) 65536) with
    | true => (fillRB s.hp e.sz ps (List.replicate n row)).bind fun rows => forceRs rows fun rows => some (.ms s.nx 0 n,alloc (.arr (et,e.sz) rows true) ⟨s.tm,frz (keysP ps) s.hp,s.nx⟩)
    | false => none
theorem aBuildSliceB_ok (t : TypeId) (n : Nat) (ps : List (Nat × AV)) (s : St) : Give2 (aBuildSliceB T t n ps s) (aBuildSlice T t n ps s):=by
 unfold aBuildSliceB aBuildSlice
 cases (look T t).bind fun i => i.sl with
 | none => exact Give2.none
 | some et =>
  simp only
  cases look T et with
  | none => exact Give2.none
  | some e =>
   simp only
   cases e.sl with
   | some _ =>
    simp only
    cases e.zv with
    | nil =>
     simp only
     cases Nat.ble n 65536 with
     | false => exact Give2.none
     | true =>
      refine Give2.bind (fillOB_ok _ _) fun cs => ?_
      rw [forceVs_eq]
      exact Give2.one _ _
    | _ => exact Give2.none
   | none =>
    refine Give2.bind (toDsB_ok _ _) fun row => ?_
    cases and (and (Nat.ble 1 e.sz) (Nat.beq (lenL row) e.sz)) (Nat.ble (n * e.sz) 65536) with
    | false => exact Give2.none
    | true =>
     refine Give2.bind (fillRB_ok _ _ _ _) fun rows => ?_
     rw [forceRs_eq]
     exact Give2.one _ _
def pv (d : Option Nat) (x : Option AV) (s : St) : Option St:=match x with | some v => forceV v fun v => some (put d v s) | none => none
def pv2 (d : Option Nat) (x : Option (AV × St)) : Option St:=match x with | some (v,s) => forceV v fun v => some (put d v s) | none => none
theorem pv_ok {d : Option Nat} {x : Option AV} {s s' : St} {φ : (AV -> Prop) -> Prop} (h : Gives x φ) (e : pv d x s = some s') {K : St -> Prop} (hK : K s') : φ fun v => K (put d v s):=by
 cases x with
 | none => cases e
 | some v =>
  simp only [pv,forceV_eq] at e
  cases e
  exact h v rfl _ hK
theorem pv2_ok {d : Option Nat} {x : Option (AV × St)} {s' : St} {φ : (AV -> St -> Prop) -> Prop} (h : Give2 x φ) (e : pv2 d x = some s') {K : St -> Prop} (hK : K s') : φ fun v s => K (put d v s):=by
 cases x with
 | none => cases e
 | some p =>
  obtain ⟨v,s⟩:=p
  simp only [pv2,forceV_eq] at e
  cases e
  exact h v s rfl _ hK
def aStrOfB (src d : TypeId) (x : AV) : Option AV :=
 match ((look T src).bind fun i => i.sl).bind (look T) with
 | none => none
 | some e => match e.k with
  | some .u8 => match look T d with
   | none => none
   | some i => match i.st with
    | false => none
    | true => match x with
     | .sl (r :: rows) => match numsOf (r :: rows) with
      | some l => some (.str (strN l))
      | none => none
     | _ => none
  | _ => none
theorem aStrOfB_ok (src d : TypeId) (x : AV) : Gives (aStrOfB T src d x) (aStrOf T src d x):=by
 unfold aStrOfB aStrOf
 cases ((look T src).bind fun i => i.sl).bind (look T) with
 | none => exact Gives.none
 | some e =>
  simp only
  cases e.k with
  | none => exact Gives.none
  | some k =>
   cases k with
   | u8 =>
    simp only
    cases look T d with
    | none => exact Gives.none
    | some i =>
     simp only
     cases i.st with
     | false => exact Gives.none
     | true =>
      simp only
      cases x with
      | sl rows =>
       cases rows with
       | nil => exact Gives.none
       | cons r rows =>
        simp only
        cases numsOf (r :: rows) with
        | none => exact Gives.none
        | some l => exact Gives.one _
      | _ => exact Gives.none
   | _ => exact Gives.none
def runOp (cal : FuncId -> List AV -> St -> Option (AV × St)) (lim : Option (Nat -> Bool)) (o : Oper) (s : St) : Option St :=
 match o.op with
 | .move x | .assign x => pv o.dst (some (ev gl s x)) s
 | .pick c a b => match ev gl s c with | .bool t => pv o.dst (pickB t (ev gl s a) (ev gl s b)) s | _ => none
 | .alloc e => match look T e with
  | some i => match ones (cells i.zv) with | true => some (put o.dst (.bp s.nx 0) (alloc (.box (cells i.zv)) s)) | false => none
  | none => none
 | .box _ x => match ones (cells (ev gl s x)) with | true => some (put o.dst (.bp s.nx 0) (alloc (.box (cells (ev gl s x))) s)) | false => none
 | .build t ps => match look T t with
  | some i => match (layOf i) with
   | [] => none
   | _ :: _ => match and i.fo (ones (cells i.zv)) with | true => pv o.dst ((fillAB (layOf i) (evParts gl s ps.toList) (cells i.zv)).bind fun cs => some (.agg cs)) s | false => none
  | none => none
 | .buildSlice t n ps => pv2 o.dst (aBuildSliceB T t n (evParts gl s ps.toList) s)
 | .load t a => pv o.dst (aLoadB T lim t (ev gl s a) s) s
 | .store t a x => (aStoreB T t (ev gl s a) (ev gl s x) s).bind fun s' => some (put o.dst .undef s')
 | .nilCheck x => match ev gl s x with | .bp k i => some (put o.dst (.bp k i) s) | .ap k r i => some (put o.dst (.ap k r i) s) | .er row i => some (put o.dst (.er row i) s) | .fn f c => some (put o.dst (.fn f c) s) | _ => none
 | .binOp op t x y _ => pv o.dst (binB (look T t) op (ev gl s x) (ev gl s y)) s
 | .unOp op _ x => pv o.dst (unB op (ev gl s x)) s
 | .convert src d x => match (look T d).bind fun i => i.k with
  | some k => match ev gl s x with | .int _ n => pv o.dst (some (.int k (k.wrap n))) s | _ => none
  | none => pv o.dst (aStrOfB T src d (ev gl s x)) s
 | .makeFunc (.func f) ⟨[]⟩ cap => pv o.dst (some (.fn f (evs gl s cap.toList))) s
 | .makeSlice t l c => pv2 o.dst (aMakeSliceB T t (ev gl s l) (ev gl s c) s)
 | .slice t x lo hi none => pv o.dst (aSliceB T lim t (ev gl s x) (lo.map (ev gl s)) (hi.map (ev gl s)) s) s
 | .fieldAddr t x f => pv o.dst (aFieldAddrB T t (ev gl s x) f) s
 | .indexAddr t x i => pv o.dst (aIndexAddrB T lim t (ev gl s x) (ev gl s i) s) s
 | .index t x i => pv o.dst (aIndexUB T t (ev gl s x) (ev gl s i)) s
 | .field t x f => pv o.dst (aFieldB T t (ev gl s x) f) s
 | .extract x i => match ev gl s x with | .tup vs => pv o.dst (nth vs i) s | _ => none
 | .call { callee:=.builtin b,args,argTypes } =>
  match b,evs gl s args.toList,argTypes.toList with
  | .len,[x],[t] => (match (look T t).bind fun i => i.sl with | some _ => pv o.dst ((lenOfB x).bind fun n => some (.int .i64 n)) s | none => none)
  | .append,[x,y],[t,u] => (match Nat.beq t u with | true => pv2 o.dst (aAppendB T t x y s) | false => none)
  | .copy,[x,y],[t,_] => pv2 o.dst (aCopyB T t x y s)
  | .min,vs,_ => pv o.dst (aMinMaxB false vs) s
  | .max,vs,_ => pv o.dst (aMinMaxB true vs) s
  | _,_,_ => none
 | .call { callee:=.value f,args,argTypes:=_ } => match ev gl s f with
  | .fn f cap => pv2 o.dst (cal f (appL (evs gl s args.toList) cap) s)
  | _ => none
 | _ => none
variable {T gl}
theorem runOp_ok {cal : FuncId -> List AV -> St -> Option (AV × St)} {H : Tg -> List AV -> St -> (AV -> St -> Prop) -> Prop} (hc : ∀ f vs s,Give2 (cal f vs s) (H (.fn f) vs s)) {lim : Option (Nat -> Bool)} {o : Oper} {s s' : St} {K : St -> Prop}
  (h : runOp T gl cal lim o s = some s') (hK : K s') : aOp T gl H lim o s K:=by
 obtain ⟨dst,op,type,pos,after,guard⟩:=o
 cases op with
 | move x => exact pv_ok (Gives.force _) h hK
 | assign x => exact pv_ok (Gives.force _) h hK
 | pick c a b =>
  unfold runOp at h; unfold aOp; simp only at h ⊢
  cases hb : ev gl s c <;> rw [hb] at h <;> first | (cases h; done) | exact pv_ok (pickB_ok _ _ _) h hK
 | alloc e =>
  unfold runOp at h; unfold aOp; simp only at h ⊢
  cases hl : look T e with
  | none => rw [hl] at h; cases h
  | some i =>
   rw [hl] at h
   simp only at h ⊢
   cases ho : ones (cells i.zv) with
   | false => rw [ho] at h; cases h
   | true => rw [ho] at h; cases h; exact hK
 | box t x =>
  unfold runOp at h; unfold aOp; simp only at h ⊢
  rw [forceL_eq]
  cases ho : ones (cells (ev gl s x)) with
  | false => rw [ho] at h; cases h
  | true => rw [ho] at h; cases h; exact hK
 | build t ps =>
  unfold runOp at h; unfold aOp; simp only at h ⊢
  cases hl : look T t with
  | none => rw [hl] at h; cases h
  | some i =>
   rw [hl] at h
   simp only at h ⊢
   cases hla : layOf i with
   | nil => rw [hla] at h; cases h
   | cons p l =>
    rw [hla] at h
    simp only at h ⊢
    cases ho : and i.fo (ones (cells i.zv)) with
    | false => rw [ho] at h; cases h
    | true =>
     rw [ho] at h
     exact pv_ok ((fillAB_ok (p :: l) _ _).map _) h hK
 | buildSlice t n ps => exact pv2_ok (aBuildSliceB_ok T t n _ s) h hK
 | load t a => exact pv_ok (aLoadB_ok T lim t _ s) h hK
 | store t a x =>
  unfold runOp at h; unfold aOp; simp only at h ⊢
  rw [force_eq]
  obtain ⟨s1,h1,h2⟩:=Option.bind_eq_some_iff.1 h
  cases h2
  exact aStoreB_ok T t _ _ s s1 h1 _ hK
 | nilCheck x =>
  unfold runOp at h; unfold aOp; simp only at h ⊢
  cases hb : ev gl s x <;> rw [hb] at h <;> first | (cases h; done) | (cases h; exact hK)
 | binOp op t x y u => exact pv_ok (binB_ok _ _ _ _) h hK
 | unOp op t x => exact pv_ok (unB_ok _ _) h hK
 | convert t d x =>
  unfold runOp at h; unfold aOp; simp only at h ⊢
  cases hl : (look T d).bind fun i => i.k with
  | none => rw [hl] at h; exact pv_ok (aStrOfB_ok _ _ _ _) h hK
  | some k =>
   rw [hl] at h
   simp only at h ⊢
   cases hb : ev gl s x <;> rw [hb] at h <;> first | (cases h; done) | exact pv_ok (Gives.one _) h hK
 | makeFunc fn first cap =>
  cases fn with
  | func f =>
   obtain ⟨first⟩:=first
   cases first with
   | nil =>
    unfold runOp at h; unfold aOp; simp only at h ⊢
    rw [forceL_eq]
    exact pv_ok (Gives.one _) h hK
   | cons _ _ => cases h
  | _ => cases h
 | makeSlice t x y => exact pv2_ok (aMakeSliceB_ok T t _ _ s) h hK
 | slice t x lo hi mx =>
  cases mx with
  | none => exact pv_ok (aSliceB_ok T lim t _ _ _ s) h hK
  | some _ => cases h
 | fieldAddr t x f => exact pv_ok (aFieldAddrB_ok T t _ f) h hK
 | indexAddr t x i => exact pv_ok (aIndexAddrB_ok T lim t _ _ s) h hK
 | index t x i => exact pv_ok (aIndexUB_ok T t _ _) h hK
 | field t x f => exact pv_ok (aFieldB_ok T t _ f) h hK
 | extract x i =>
  unfold runOp at h; unfold aOp; simp only at h ⊢
  cases hb : ev gl s x with
  | tup vs =>
   rw [hb] at h
   simp only at h ⊢
   cases hn : nth vs i with
   | none => rw [hn] at h; cases h
   | some v => rw [hn] at h; exact pv_ok (Gives.force _) h hK
  | _ => rw [hb] at h; cases h
 | call cl =>
  obtain ⟨callee,args,ts⟩:=cl
  cases callee with
  | builtin b =>
   unfold runOp at h; unfold aOp; simp only at h ⊢
   generalize evs gl s args.toList = xs at h ⊢
   generalize ts.toList = us at h ⊢
   cases b with
   | len =>
    rcases xs with _ | ⟨x,_ | ⟨y,l⟩⟩ <;> rcases us with _ | ⟨t,_ | ⟨u,m⟩⟩ <;> first | (cases h; done) | skip
    simp only at h ⊢
    cases hl : (look T t).bind fun i => i.sl with
    | none => rw [hl] at h; cases h
    | some _ => rw [hl] at h; exact pv_ok ((lenOfB_ok x).map _) h hK
   | append =>
    rcases xs with _ | ⟨x,_ | ⟨y,_ | ⟨z,l⟩⟩⟩ <;> rcases us with _ | ⟨t,_ | ⟨u,_ | ⟨v,m⟩⟩⟩ <;> first | (cases h; done) | skip
    simp only at h ⊢
    cases hl : Nat.beq t u with
    | false => rw [hl] at h; cases h
    | true => rw [hl] at h; exact pv2_ok (aAppendB_ok T t x y s) h hK
   | copy =>
    rcases xs with _ | ⟨x,_ | ⟨y,_ | ⟨z,l⟩⟩⟩ <;> rcases us with _ | ⟨t,_ | ⟨u,_ | ⟨v,m⟩⟩⟩ <;> first | (cases h; done) | skip
    exact pv2_ok (aCopyB_ok T t x y s) h hK
   | min => exact pv_ok (aMinMaxB_ok _ _) h hK
   | max => exact pv_ok (aMinMaxB_ok _ _) h hK
   | _ => cases h
  | value f =>
   unfold runOp at h; unfold aOp; simp only at h ⊢
   cases hb : ev gl s f with
   | fn g cap =>
    rw [hb] at h
    simp only at h ⊢
    rw [forceL_eq]
    exact pv2_ok (hc _ _ _) h hK
   | _ => rw [hb] at h; cases h
  | _ => cases h
 | _ => cases h
section
variable (T : List (Nat × TyI)) (gl : List (Nat × AV))
def aLookupB (t : TypeId) (m x : AV) (ok : Bool) (s : St) : Option AV :=
 match (look T t).bind fun i => i.mp with
 | some z => match plainV z with
  | true => match m with
   | .mv k => match s.hp k with
    | some (.mp es) => match pairOf x with
     | some p => match findP p es with
      | some v => match ok with | true => some (.tup [v,.bool true]) | false => some v
      | none => match ok with | true => some (.tup [z,.bool false]) | false => some z
     | none => none
    | _ => none
   | _ => none
  | false => none
 | none => none
theorem aLookupB_ok (t : TypeId) (m x : AV) (ok : Bool) (s : St) : Gives (aLookupB T t m x ok s) (aLookup T t m x ok s):=by
 unfold aLookupB aLookup
 cases (look T t).bind fun i => i.mp with
 | none => exact Gives.none
 | some z =>
  simp only
  cases plainV z with
  | false => exact Gives.none
  | true =>
   cases m with
   | mv k =>
    simp only
    cases s.hp k with
    | none => exact Gives.none
    | some b =>
     cases b with
     | mp es =>
      simp only
      cases pairOf x with
      | none => exact Gives.none
      | some p =>
       simp only
       cases findP p es with
       | none => cases ok <;> exact Gives.one _
       | some v => cases ok <;> exact Gives.one _
     | _ => exact Gives.none
   | _ => exact Gives.none
def aMapSetB (t : TypeId) (m x y : AV) (s : St) : Option St :=
 match (look T t).bind fun i => i.mp with
 | some _ => match m with
  | .mv k => match s.hp k with
   | some (.mp es) => match pairOf x with
    | some p => match plainV y with
     | true => some (setB k (some (.mp (setP p y es))) s)
     | false => none
    | none => none
   | _ => none
  | _ => none
 | none => none
theorem aMapSetB_ok (t : TypeId) (m x y : AV) (s : St) : Gives (aMapSetB T t m x y s) (aMapSet T t m x y s):=by
 unfold aMapSetB aMapSet
 cases (look T t).bind fun i => i.mp with
 | none => exact Gives.none
 | some z =>
  simp only
  cases m with
  | mv k =>
   simp only
   cases s.hp k with
   | none => exact Gives.none
   | some b =>
    cases b with
    | mp es =>
     simp only
     cases pairOf x with
     | none => exact Gives.none
     | some p =>
      simp only
      cases plainV y with
      | false => exact Gives.none
      | true => exact Gives.one _
    | _ => exact Gives.none
  | _ => exact Gives.none
def aMapLenB (x : AV) (s : St) : Option AV :=
 match x with
 | .mv k => match s.hp k with
  | some (.mp es) => some (.int .i64 es.length)
  | _ => none
 | _ => none
theorem aMapLenB_ok (x : AV) (s : St) : Gives (aMapLenB x s) (aMapLen x s):=by
 unfold aMapLenB aMapLen
 cases x with
 | mv k =>
  simp only
  cases s.hp k with
  | none => exact Gives.none
  | some b =>
   cases b with
   | mp es => exact Gives.one _
   | _ => exact Gives.none
 | _ => exact Gives.none
def forceUs : List UInt8 -> (List UInt8 -> ByteArray) -> ByteArray
 | [],K => K []
 | x :: l,K => forceUs l fun l => K (x :: l)
theorem forceUs_eq : ∀ (l : List UInt8) (K : List UInt8 -> ByteArray),forceUs l K = K l
 | [],_ => rfl
 | x :: l,K => by unfold forceUs; exact forceUs_eq l _
def strC (l : List UInt8) : ByteArray:=forceUs l fun l => ⟨⟨l⟩⟩
theorem strC_eq (l : List UInt8) : strC l = ⟨⟨l⟩⟩:=forceUs_eq l _
def aStrCutB (x : AV) (lo hi : Option AV) : Option AV :=
 match x with
 | .str b => (hiB hi b.data.toList.length).bind fun h => (loB lo h).bind fun l => some (.str (strC ((b.data.toList.take h).drop l)))
 | _ => none
theorem aStrCutB_ok (x : AV) (lo hi : Option AV) : Gives (aStrCutB x lo hi) (aStrCut x lo hi):=by
 unfold aStrCutB aStrCut
 cases x with
 | str b =>
  simp only [strC_eq]
  have hlo : ∀ h : Nat,Gives ((loB lo h).bind fun l => some (AV.str ⟨⟨(b.data.toList.take h).drop l⟩⟩)) (fun K : AV -> Prop => (match lo with
   | none => fun k : Nat -> Prop => k 0
   | some (.int _ l) => fun k => 0 <= l∧l <= (h : Int)∧k l.toNat
   | _ => fun _ => False) fun l => K (.str ⟨⟨(b.data.toList.take h).drop l⟩⟩)):=by
   intro h
   unfold loB
   cases lo with
   | none => exact Gives.one _
   | some v =>
    cases v with
    | int k l =>
     intro u hu K hK
     obtain ⟨l',h1,h2⟩:=Option.bind_eq_some_iff.1 hu
     obtain ⟨g1,h1⟩:=guardB_some h1
     obtain ⟨g2,h1⟩:=guardB_some h1
     cases h1
     cases h2
     exact ⟨dec_ok g1,dec_ok g2,hK⟩
    | _ => exact Gives.none
  unfold hiB
  cases hi with
  | none => exact hlo _
  | some v =>
   cases v with
   | int k h =>
    intro u hu K hK
    obtain ⟨h',h1,h2⟩:=Option.bind_eq_some_iff.1 hu
    obtain ⟨g1,h1⟩:=guardB_some h1
    obtain ⟨g2,h1⟩:=guardB_some h1
    cases h1
    exact ⟨dec_ok g1,dec_ok g2,hlo h.toNat u h2 K hK⟩
   | _ => exact Gives.none
 | _ => exact Gives.none
def aStrMB (src d : TypeId) (x : AV) (s : St) : Option AV :=
 match x with
 | .ms k off n => (toDB s.hp (.ms k off n)).bind fun v => aStrOfB T src d v
 | x => aStrOfB T src d x
theorem aStrMB_ok (src d : TypeId) (x : AV) (s : St) : Gives (aStrMB T src d x s) (aStrM T src d x s):=by
 cases x with
 | ms k off n => exact (toDB_ok s.hp (.ms k off n)).bind fun v => aStrOfB_ok T src d v
 | _ => unfold aStrMB aStrM; exact aStrOfB_ok T src d _
def aLenSB (t : TypeId) (x : AV) (s : St) : Option AV :=
 match (look T t).bind fun i => i.mp with
 | some _ => aMapLenB x s
 | none => match x with
  | .str b => some (.int .i64 b.data.toList.length)
  | _ => none
theorem aLenSB_ok (t : TypeId) (x : AV) (s : St) : Gives (aLenSB T t x s) (aLenS T t x s):=by
 unfold aLenSB aLenS
 cases (look T t).bind fun i => i.mp with
 | some _ => exact aMapLenB_ok _ s
 | none =>
  cases x with
  | str b => exact Gives.one _
  | _ => exact Gives.none
def runSp (o : Oper) (s : St) : Option St :=
 match o.op with
 | .makeMap t none => match (look T t).bind fun i => i.mp with
  | some _ => some (put o.dst (.mv s.nx) (alloc (.mp []) s))
  | none => none
 | .lookup t m x ok => pv o.dst (aLookupB T t (ev gl s m) (ev gl s x) ok s) s
 | .mapUpdate t m x y => forceV (ev gl s y) fun v => (aMapSetB T t (ev gl s m) (ev gl s x) v s).bind fun s' => some (put o.dst .undef s')
 | .call { callee:=.builtin .len,args:=args,argTypes:=ts } => match evs gl s args.toList,ts.toList with
  | [x],[t] => pv o.dst (aLenSB T t x s) s
  | _,_ => none
 | .binOp op _ x y _ => match op with
  | .add => match ev gl s x with
   | .str a => match ev gl s y with
    | .str b => match Nat.ble (a.data.toList.length + b.data.toList.length) 1000000000000 with
     | true => pv o.dst (some (.str (strC (a.data.toList ++ b.data.toList)))) s
     | false => none
    | _ => none
   | _ => none
  | _ => none
 | .convert t d x => match look T d with
  | some i => match i.st with
   | true => pv o.dst (aStrMB T t d (ev gl s x) s) s
   | false => none
  | none => none
 | .slice _ x lo hi none => pv o.dst (aStrCutB (ev gl s x) (lo.map (ev gl s)) (hi.map (ev gl s))) s
 | _ => none
variable {T gl}
theorem runSp_ok {o : Oper} {s s' : St} {K : St -> Prop} (h : runSp T gl o s = some s') (hK : K s') : aSp T gl o s K:=by
 obtain ⟨dst,op,type,pos,after,guard⟩:=o
 unfold runSp at h
 unfold aSp
 cases op with
 | makeMap t r =>
  cases r with
  | some _ => cases h
  | none =>
   simp only at h ⊢
   cases hl : (look T t).bind fun i => i.mp with
   | none => rw [hl] at h; cases h
   | some z => rw [hl] at h; cases h; exact hK
 | lookup t m x ok => exact pv_ok (aLookupB_ok _ _ _ _ _ _) h hK
 | mapUpdate t m x y =>
  simp only [forceV_eq] at h
  simp only [force_eq]
  obtain ⟨s1,h1,h2⟩:=Option.bind_eq_some_iff.1 h
  cases h2
  exact aMapSetB_ok _ _ _ _ _ _ s1 h1 _ hK
 | call cl =>
  obtain ⟨callee,args,ts⟩:=cl
  cases callee with
  | builtin b =>
   cases b with
   | len =>
    simp only at h ⊢
    split at h
    ·rename_i x t e1 e2
     rw [e1,e2]
     exact pv_ok (aLenSB_ok _ _ _ _) h hK
    ·cases h
   | _ => cases h
  | _ => cases h
 | binOp op t x y u =>
  cases op with
  | add =>
   simp only at h ⊢
   unfold aStrAdd
   cases hx : ev gl s x with
   | str a =>
    rw [hx] at h
    simp only at h ⊢
    cases hy : ev gl s y with
    | str b =>
     rw [hy] at h
     simp only at h ⊢
     cases hb : Nat.ble (a.data.toList.length + b.data.toList.length) 1000000000000 with
     | false => rw [hb] at h; cases h
     | true =>
      rw [hb,strC_eq] at h
      exact pv_ok (Gives.one _) h hK
    | _ => rw [hy] at h; cases h
   | _ => rw [hx] at h; cases h
  | _ => cases h
 | convert t d x =>
  simp only at h ⊢
  cases hl : look T d with
  | none => rw [hl] at h; cases h
  | some i =>
   rw [hl] at h
   simp only at h ⊢
   cases hs : i.st with
   | true => rw [hs] at h; exact pv_ok (aStrMB_ok _ _ _ _ _) h hK
   | false => rw [hs] at h; cases h
 | slice t x lo hi mx =>
  cases mx with
  | some _ => cases h
  | none => exact pv_ok (aStrCutB_ok _ _ _) h hK
 | _ => cases h
variable (T gl)
def runFz (o : Oper) (s : St) : Option St :=
 match o.op with
 | .buildSlice t n ps => match (look T t).bind fun i => i.sl with
  | none => none
  | some et => match look T et with
   | none => none
   | some e => match e.sl with
    | some _ => none
    | none => (toDsB (fun _ => none) (cells e.zv)).bind fun row => match and (and (Nat.ble 1 e.sz) (Nat.beq (lenL row) e.sz)) (Nat.ble (n * e.sz) 65536) with
     | true => (fillRB (fun _ => none) e.sz (evParts gl s ps.toList) (List.replicate n row)).bind fun rows => forceRs rows fun rows => some (put o.dst (.sl rows) s)
     | false => none
 | _ => none
variable {T gl}
theorem runFz_ok {o : Oper} {s s' : St} {K : St -> Prop} (h : runFz T gl o s = some s') (hK : K s') : aFz T gl o s K:=by
 obtain ⟨dst,op,type,pos,after,guard⟩:=o
 unfold runFz at h
 unfold aFz
 cases op with
 | buildSlice t n ps =>
  simp only at h ⊢
  cases hl : (look T t).bind fun i => i.sl with
  | none => rw [hl] at h; cases h
  | some et =>
   rw [hl] at h
   simp only at h ⊢
   cases he : look T et with
   | none => rw [he] at h; cases h
   | some e =>
    rw [he] at h
    simp only at h ⊢
    cases hs : e.sl with
    | some _ => rw [hs] at h; cases h
    | none =>
     rw [hs] at h
     simp only at h ⊢
     obtain ⟨row,h1,h⟩:=Option.bind_eq_some_iff.1 h
     refine toDsB_ok _ _ row h1 _ ?_
     cases hc : Bool.and (Bool.and (Nat.ble 1 e.sz) (Nat.beq (lenL row) e.sz)) (Nat.ble (n * e.sz) 65536) with
     | false => rw [hc] at h; cases h
     | true =>
      rw [hc] at h
      obtain ⟨rows,h2,h⟩:=Option.bind_eq_some_iff.1 h
      simp only [forceRs_eq] at h
      cases h
      exact fillRB_ok _ _ _ _ rows h2 _ hK
 | _ => cases h
end
end Ab
end
section
namespace Ab
open Go
def tmL {α : Type} (tm : Nat -> AV) : Nat -> Nat -> (List AV -> α) -> α
 | _,0,K => K []
 | i,n + 1,K => forceV (tm i) fun v => tmL tm (Nat.succ i) n fun l => K (v :: l)
theorem tmL_eq {α : Type} (tm : Nat -> AV) : ∀ (n i : Nat) (K : List AV -> α),tmL tm i n K = K ((List.range' i n).map tm)
 | 0,_,_ => rfl
 | n + 1,i,K => by unfold tmL; rw [forceV_eq,tmL_eq tm n (Nat.succ i)]; rfl
def forceEs {α : Type} (l : List ((Int × Int) × AV)) (K : List ((Int × Int) × AV) -> α) : α :=
 match l with
 | [] => K []
 | ((a,b),v) :: es => forceI a fun a => forceI b fun b => forceV v fun v => forceEs es fun es => K (((a,b),v) :: es)
theorem forceEs_eq {α : Type} : ∀ (l : List ((Int × Int) × AV)) (K : List ((Int × Int) × AV) -> α),forceEs l K = K l
 | [],_ => rfl
 | ((a,b),v) :: es,K => by unfold forceEs; simp only [forceI_eq,forceV_eq]; exact forceEs_eq es _
def forceK {α : Type} (b : Option Blk) (K : Option Blk -> α) : α :=
 match b with
 | none => K none
 | some .res => K (some .res)
 | some (.mp es) => forceEs es fun es => K (some (.mp es))
 | some (.box cs) => forceVs cs fun cs => K (some (.box cs))
 | some (.own et cs) => forceVs cs fun cs => K (some (.own et cs))
 | some (.arr sz rows lv) => forceRs rows fun rows => K (some (.arr sz rows lv))
theorem forceK_eq {α : Type} (b : Option Blk) (K : Option Blk -> α) : forceK b K = K b:=by
 cases b with
 | none => rfl
 | some b => cases b <;> simp only [forceK,forceVs_eq,forceRs_eq,forceEs_eq]
def hpL {α : Type} (hp : Nat -> Option Blk) : Nat -> Nat -> (List (Option Blk) -> α) -> α
 | _,0,K => K []
 | i,n + 1,K => forceK (hp i) fun v => hpL hp (Nat.succ i) n fun l => K (v :: l)
theorem hpL_eq {α : Type} (hp : Nat -> Option Blk) : ∀ (n i : Nat) (K : List (Option Blk) -> α),hpL hp i n K = K ((List.range' i n).map hp)
 | 0,_,_ => rfl
 | n + 1,i,K => by unfold hpL; rw [forceK_eq,hpL_eq hp n (Nat.succ i)]; rfl
def ofL (l : List AV) (h : List (Option Blk)) (nx : Nat) : St:=⟨fun k => (nth l k).getD .undef,fun k => (nth h k).getD none,nx⟩
def norm {α : Type} (N : Nat) (s : St) (K : St -> α) : α:=tmL s.tm 0 N fun l => forceN s.nx fun nx => hpL s.hp 0 nx fun h => K (ofL l h nx)
def normS (N : Nat) (s : St) : St:=ofL ((List.range' 0 N).map s.tm) ((List.range' 0 s.nx).map s.hp) s.nx
theorem norm_eq {α : Type} (N : Nat) (s : St) (K : St -> α) : norm N s K = K (normS N s):=by
 unfold norm; rw [tmL_eq,forceN_eq,hpL_eq]; rfl
theorem normS_le (N : Nat) (s : St) : Le (normS N s) s:=by
 refine ⟨fun t => ?_,fun k => ?_,Nat.le_refl _⟩
 ·simp only [normS,ofL,nth_eq]
  rw [List.getElem?_map]
  by_cases h : t < N
  ·right; rw [List.getElem?_range' h]; simp
  ·left; rw [List.getElem?_eq_none (by simpa using h)]; rfl
 ·simp only [normS,ofL,nth_eq]
  rw [List.getElem?_map]
  by_cases h : k < s.nx
  ·right; rw [List.getElem?_range' h]; simp
  ·left; rw [List.getElem?_eq_none (by simpa using h)]; rfl
abbrev Cal:=FuncId -> List AV -> St -> Option (AV × St)
section
variable (T : List (Nat × TyI)) (gl : List (Nat × AV)) (calD cal : Cal)
def youngB (chk : Bool) (p : Nat -> Bool) (op : Op) (s : St) (x : Option St) : Option St :=
 match turnsOp op with
 | false => x
 | true => match chk with
  | false => x
  | true => guardB ((touch gl op s).all fun k => not (p k)) x
def oldB (old : Bool) (p : Nat -> Bool) (op : Op) (s : St) : Bool :=
 match old with
 | false => true
 | true => match op with
  | .call { callee:=.value f,args:=args,argTypes:=_ } => match ev gl s f with
   | .fn _ cap => and (not (ptrs (appL (evs gl s args.toList) cap))) ((keysAs (appL (evs gl s args.toList) cap)).all p)
   | _ => false
  | _ => false
def resB1 (k : Nat) (o : Oper) (s : St) : Option St :=
 match s.hp k with
 | some .res => match o.guard with
  | none => match o.op with
   | .alloc e => match look T e with
    | some i => match and (ones (cells i.zv)) (bls 0 (cells i.zv)) with
     | true => some (put o.dst (.bp k 0) ⟨s.tm,upd k (some (.box (cells i.zv))) s.hp,s.nx⟩)
     | false => none
    | none => none
   | _ => none
  | some _ => none
 | _ => none
def stepB (fl : Oper -> Fl) (p : Nat -> Bool) (o : Oper) (s : St) : Option St :=
 youngB gl (fl o).chk p o.op s (match and (fl o).hs (spOp T o.op) with | true => runSp T gl o s | false => guardB (oldB gl (fl o).old p o.op s) (runOp T gl (bif (fl o).hs then cal else calD) (bif (fl o).lim then some p else none) o s))
def runOps (fl : Oper -> Fl) (p : Nat -> Bool) (ops : Array Oper) : List Oper -> St -> Option St
 | [],s => some s
 | o :: rest,s =>
  match (fl o).ky with
  | some k => (match resB1 T k o s with | some s' => runOps fl p ops rest s' | none => none)
  | none =>
  match (fl o).fz with
  | true => (match guardOf ops o with | none => (match runFz T gl o s with | some s' => runOps fl p ops rest s' | none => none) | some _ => none)
  | false =>
   match guardOf ops o with
   | none => match stepB T gl calD cal fl p o s with | some s' => runOps fl p ops rest s' | none => none
   | some (some d,want) => match s.tm d with
    | .bool b => match (bif b then want else not want) with
     | true => match stepB T gl calD cal fl p o s with | some s' => runOps fl p ops rest s' | none => none
     | false => runOps fl p ops rest (put o.dst (.tup []) s)
    | .tup [] => runOps fl p ops rest (put o.dst (.tup []) s)
    | _ => none
   | some (none,_) => none
def loopB (f : St -> Option (Exit × St)) (N : Nat) : Nat -> St -> Option (Exit × St)
 | 0,_ => none
 | m + 1,s => norm N s fun s => match f s with | some (.normal,s') => loopB f N m s' | r => r
def runC (N fuel : Nat) : Code -> St -> Option (Exit × St)
 | .skip,s => some (.normal,s)
 | .region _ ops false,s => match deferR ops.toList with
  | some (d,f,cap) => some (.normal,put (some d) (.fn f (evs gl s cap)) s)
  | none => match runOps T gl calD cal flagsNo (fun _ => true) ops ops.toList s with | some s' => some (.normal,s') | none => none
 | .region _ ops true,s => guardB (drawOk ops) (match runOps T gl calD cal (flagsAt s.nx ops) (sees gl ops s) ops ops.toList (kept (keptN ops) s) with | some s' => some (.normal,s') | none => none)
 | .seq a b,s => match runC N fuel a s with | some (.normal,s') => runC N fuel b s' | r => r
 | .cond c a b,s => match ev gl s c with | .bool t => (match t with | true => runC N fuel a s | false => runC N fuel b s) | _ => none
 | .block id c,s => match runC N fuel c s with | some (.exit i,s') => (match Nat.beq i id with | true => some (.normal,s') | false => some (.exit i,s')) | r => r
 | .loop c,s => loopB (fun s => runC N fuel c s) N fuel s
 | .exit id,s => some (.exit id,s)
 | .ret,s => some (.ret,s)
 | _,_ => none
variable {T gl calD cal} {HD H : Tg -> List AV -> St -> (AV -> St -> Prop) -> Prop} {G : FuncId -> List AV -> St -> (List AV -> St -> (St -> Prop) -> Prop) -> (St -> Prop) -> Prop}
theorem oldB_ok {old : Bool} {lo : Nat} {p : Nat -> Bool} {HH HE : Tg -> List AV -> St -> (AV -> St -> Prop) -> Prop} {lim : Option (Nat -> Bool)} {o : Oper} {s : St} {K : St -> Prop} (h : oldB gl old p o.op s = true) (hX : aOp T gl HH lim o s K) : aOpO T gl old lo p HH HE lim o s K:=by
 unfold oldB at h
 unfold aOpO
 cases old with
 | false => exact hX
 | true =>
  obtain ⟨dst,op,type,pos,after,guard⟩:=o
  simp only at h ⊢
  split at h
  ·rename_i f args ts
   simp only
   cases hf : ev gl s f with
   | fn g cap =>
    rw [hf] at h
    simp only [Bool.and_eq_true,Bool.not_eq_true'] at h ⊢
    rw [h.2,h.1]
    exact hX
   | _ => rw [hf] at h; cases h
  ·cases h
theorem resB1_ok {k : Nat} {o : Oper} {s s' : St} {K : St -> Prop} (h : resB1 T k o s = some s') (hK : K s') : aRes T k o s K:=by
 unfold resB1 at h
 unfold aRes
 cases hk : s.hp k with
 | none => rw [hk] at h; cases h
 | some b =>
  cases b with
  | res =>
   rw [hk] at h
   cases hg : o.guard with
   | some g => rw [hg] at h; cases h
   | none =>
    rw [hg] at h
    simp only at h ⊢
    cases ho : o.op with
    | alloc e =>
     rw [ho] at h
     simp only at h ⊢
     cases hl : look T e with
     | none => rw [hl] at h; cases h
     | some i =>
      rw [hl] at h
      simp only at h ⊢
      cases h1 : and (ones (cells i.zv)) (bls 0 (cells i.zv)) with
      | false => rw [h1] at h; cases h
      | true => rw [h1] at h; cases h; exact hK
    | _ => rw [ho] at h; cases h
  | _ => rw [hk] at h; cases h
theorem stepB_ok (hD : ∀ f vs s,Give2 (calD f vs s) (HD (.fn f) vs s)) (hH : ∀ f vs s,Give2 (cal f vs s) (H (.fn f) vs s)) {fl : Oper -> Fl} {p : Nat -> Bool} {o : Oper} {s s' : St} {K : St -> Prop} (h : stepB T gl calD cal fl p o s = some s') (hK : K s') :
  young gl (fl o).chk p o.op s (aOpS T gl (fl o).hs (fl o).old (fl o).lo p (bif (fl o).hs then H else HD) H (bif (fl o).lim then some p else none) o s K):=by
 have main : ∀ lim',(match and (fl o).hs (spOp T o.op) with | true => runSp T gl o s | false => guardB (oldB gl (fl o).old p o.op s) (runOp T gl (bif (fl o).hs then cal else calD) lim' o s)) = some s' -> aOpS T gl (fl o).hs (fl o).old (fl o).lo p (bif (fl o).hs then H else HD) H lim' o s K:=by
  intro lim' h
  unfold aOpS
  cases hsp : and (fl o).hs (spOp T o.op) with
  | true => rw [hsp] at h; exact runSp_ok h hK
  | false =>
  rw [hsp] at h
  obtain ⟨hb,h⟩:=guardB_some h
  refine oldB_ok hb ?_
  cases hh : (fl o).hs with
  | true => rw [hh] at h; exact runOp_ok hH h hK
  | false => rw [hh] at h; exact runOp_ok hD h hK
 unfold stepB youngB at h
 unfold young
 cases hm : turnsOp o.op with
 | false => rw [hm] at h; exact main _ h
 | true =>
  rw [hm] at h
  simp only at h ⊢
  cases hc : (fl o).chk with
  | false => rw [hc] at h; exact main _ h
  | true =>
   rw [hc] at h
   obtain ⟨h1,h2⟩:=guardB_some h
   simp only [h1]
   exact main _ h2
theorem runOps_ok (hD : ∀ f vs s,Give2 (calD f vs s) (HD (.fn f) vs s)) (hH : ∀ f vs s,Give2 (cal f vs s) (H (.fn f) vs s)) {fl : Oper -> Fl} {p : Nat -> Bool} {ops : Array Oper} : ∀ (l : List Oper) (s s' : St) (K : St -> Prop),runOps T gl calD cal fl p ops l s = some s' -> K s' ->
  aOps T gl HD H fl p ops l s K
 | [],s,s',K,h,hK => by cases h; exact hK
 | o :: rest,s,s',K,h,hK => by
   unfold runOps at h
   rw [aOps_cons]
   unfold stepA
   cases hky : (fl o).ky with
   | some k =>
    rw [hky] at h
    simp only at h ⊢
    cases hs1 : resB1 T k o s with
    | none => rw [hs1] at h; cases h
    | some s1 =>
     rw [hs1] at h
     exact resB1_ok hs1 (K:=fun s' => aOps T gl HD H fl p ops rest s' K) (runOps_ok hD hH rest s1 s' K h hK)
   | none =>
   rw [hky] at h
   simp only at h ⊢
   cases hfz : (fl o).fz with
   | true =>
    rw [hfz] at h
    simp only at h ⊢
    cases hg : guardOf ops o with
    | some q => rw [hg] at h; cases h
    | none =>
     rw [hg] at h
     simp only at h ⊢
     cases hs1 : runFz T gl o s with
     | none => rw [hs1] at h; cases h
     | some s1 =>
      rw [hs1] at h
      exact runFz_ok hs1 (K:=fun s' => aOps T gl HD H fl p ops rest s' K) (runOps_ok hD hH rest s1 s' K h hK)
   | false =>
   rw [hfz] at h
   simp only at h ⊢
   have go : (match stepB T gl calD cal fl p o s with | some s' => runOps T gl calD cal fl p ops rest s' | none => none) = some s' ->
     young gl (fl o).chk p o.op s (aOpS T gl (fl o).hs (fl o).old (fl o).lo p (bif (fl o).hs then H else HD) H (bif (fl o).lim then some p else none) o s fun s' => aOps T gl HD H fl p ops rest s' K):=by
    intro h
    cases hs1 : stepB T gl calD cal fl p o s with
    | none => rw [hs1] at h; cases h
    | some s1 =>
     rw [hs1] at h
     exact stepB_ok hD hH hs1 (K:=fun s' => aOps T gl HD H fl p ops rest s' K) (runOps_ok hD hH rest s1 s' K h hK)
   cases hg : guardOf ops o with
   | none => rw [hg] at h; exact go h
   | some q =>
    obtain ⟨d,want⟩:=q
    cases d with
    | none => rw [hg] at h; cases h
    | some d =>
     rw [hg] at h
     simp only at h ⊢
     cases hb : s.tm d with
     | bool b =>
      rw [hb] at h
      simp only at h ⊢
      refine ⟨fun e => ?_,fun e => ?_⟩
      ·subst e
       rw [put_same hb]
       cases b <;> exact go h
      ·rw [<- e,put_same hb]
       cases b <;> cases want <;> first | (cases e; done) | exact runOps_ok hD hH rest _ s' K h hK
     | tup l =>
      rw [hb] at h
      cases l with
      | cons _ _ => cases h
      | nil => exact runOps_ok hD hH rest _ s' K h hK
     | _ => rw [hb] at h; cases h
theorem runC_ok (hD : ∀ f vs s,Give2 (calD f vs s) (HD (.fn f) vs s)) (hH : ∀ f vs s,Give2 (cal f vs s) (H (.fn f) vs s)) {N fuel : Nat} : ∀ (cd : Code) (s : St) (e : Exit) (s' : St) (Q : Exit -> St -> Prop),runC T gl calD cal N fuel cd s = some (e,s') -> Q e s' -> awC T gl HD H G cd s Q
 | .skip,s,e,s',Q,h,hQ => by unfold runC at h; cases h; unfold awC; exact hQ
 | .exit id,s,e,s',Q,h,hQ => by unfold runC at h; cases h; unfold awC; exact hQ
 | .ret,s,e,s',Q,h,hQ => by unfold runC at h; cases h; unfold awC; exact hQ
 | .region id ops false,s,e,s',Q,h,hQ => by
   unfold runC at h; unfold awC
   cases hd : deferR ops.toList with
   | some q =>
    obtain ⟨d,f,cap⟩:=q
    rw [hd] at h
    simp only at h ⊢
    rw [forceL_eq]
    cases h
    exact hQ
   | none =>
   rw [hd] at h
   simp only at h ⊢
   cases hr : runOps T gl calD cal flagsNo (fun _ => true) ops ops.toList s with
   | none => rw [hr] at h; cases h
   | some s1 => rw [hr] at h; cases h; exact runOps_ok hD hH _ _ _ _ hr hQ
 | .region id ops true,s,e,s',Q,h,hQ => by
   unfold runC at h; unfold awC
   obtain ⟨h1,h⟩:=guardB_some h
   refine ⟨h1,?_⟩
   cases hr : runOps T gl calD cal (flagsAt s.nx ops) (sees gl ops s) ops ops.toList (kept (keptN ops) s) with
   | none => rw [hr] at h; cases h
   | some s1 => rw [hr] at h; cases h; exact runOps_ok hD hH _ _ _ _ hr hQ
 | .seq a b,s,e,s',Q,h,hQ => by
   unfold runC at h; unfold awC
   cases hr : runC T gl calD cal N fuel a s with
   | none => rw [hr] at h; cases h
   | some p =>
    obtain ⟨e1,s1⟩:=p
    rw [hr] at h
    refine runC_ok hD hH a s e1 s1 _ hr ?_
    cases e1 with
    | normal => exact runC_ok hD hH b s1 e s' Q h hQ
    | _ => cases h; exact hQ
 | .cond c a b,s,e,s',Q,h,hQ => by
   unfold runC at h; unfold awC
   cases hc : ev gl s c with
   | bool t =>
    rw [hc] at h
    cases t with
    | true => exact ⟨fun _ => runC_ok hD hH a s e s' Q h hQ,fun e => by cases e⟩
    | false => exact ⟨fun e => (by cases e),fun _ => runC_ok hD hH b s e s' Q h hQ⟩
   | _ => rw [hc] at h; cases h
 | .block id c,s,e,s',Q,h,hQ => by
   unfold runC at h; unfold awC
   cases hr : runC T gl calD cal N fuel c s with
   | none => rw [hr] at h; cases h
   | some p =>
    obtain ⟨e1,s1⟩:=p
    rw [hr] at h
    refine runC_ok hD hH c s e1 s1 _ hr ?_
    cases e1 with
    | exit i =>
     simp only at h ⊢
     cases hb : Nat.beq i id with
     | true => rw [hb] at h; cases h; exact hQ
     | false => rw [hb] at h; cases h; exact hQ
    | _ => cases h; exact hQ
 | .loop c,s,e,s',Q,h,hQ => by
   unfold runC at h; unfold awC
   classical
   let f:=fun s => runC T gl calD cal N fuel c s
   let I : St -> Prop:=fun s1 => ∃ m s0,s1 = normS N s0∧loopB f N m s0 = some (e,s')
   let μ : St -> Nat:=fun s1 => if hI : ∃ m s0,s1 = normS N s0∧loopB f N m s0 = some (e,s') then Classical.choose (exists_least (fun m => ∃ s0,s1 = normS N s0∧loopB f N m s0 = some (e,s')) hI) else 0
   refine ⟨I,μ,⟨normS N s,.inl (normS_le N s),fuel,s,rfl,h⟩,fun s1 hI => ?_⟩
   have hs:=Classical.choose_spec (exists_least (fun m => ∃ s0,s1 = normS N s0∧loopB f N m s0 = some (e,s')) hI)
   have hμ : μ s1 = Classical.choose (exists_least (fun m => ∃ s0,s1 = normS N s0∧loopB f N m s0 = some (e,s')) hI):=dif_pos hI
   rw [hμ]
   generalize Classical.choose (exists_least (fun m => ∃ s0,s1 = normS N s0∧loopB f N m s0 = some (e,s')) hI) = m at hs
   obtain ⟨⟨s0,rfl,hl⟩,hmin⟩:=hs
   cases m with
   | zero => cases hl
   | succ m =>
    unfold loopB at hl
    rw [norm_eq] at hl
    cases hr : f (normS N s0) with
    | none => rw [hr] at hl; cases hl
    | some p =>
     obtain ⟨e1,s2⟩:=p
     rw [hr] at hl
     refine runC_ok hD hH c _ e1 s2 _ hr ?_
     cases e1 with
     | normal =>
      refine ⟨normS N s2,.inl (normS_le N s2),⟨m,s2,rfl,hl⟩,?_⟩
      have hI2 : ∃ m s0,normS N s2 = normS N s0∧loopB f N m s0 = some (e,s'):=⟨m,s2,rfl,hl⟩
      have hμ2 : μ (normS N s2) = Classical.choose (exists_least (fun m => ∃ s0,normS N s2 = normS N s0∧loopB f N m s0 = some (e,s')) hI2):=dif_pos hI2
      rw [hμ2]
      exact Nat.lt_succ_of_le ((Classical.choose_spec (exists_least (fun m => ∃ s0,normS N s2 = normS N s0∧loopB f N m s0 = some (e,s')) hI2)).2 m ⟨s2,rfl,hl⟩)
     | _ => cases hl; exact hQ
 | .rangeFunc _ _ _ _,s,e,s',Q,h,hQ => by unfold runC at h; cases h
 | .scope _,s,e,s',Q,h,hQ => by unfold runC at h; cases h
 | .label _,s,e,s',Q,h,hQ => by unfold runC at h; cases h
 | .goto _,s,e,s',Q,h,hQ => by unfold runC at h; cases h
 | .refuse _,s,e,s',Q,h,hQ => by unfold runC at h; cases h
end
def resB (T : List (Nat × TyI)) (s : St) : List ResultVar -> Option (List AV)
 | [] => some []
 | .tmp t :: rs => (resB T s rs).bind fun vs => some (s.tm t :: vs)
 | .cell a t :: rs => (aLoadB T none t (s.tm a) s).bind fun v => (resB T s rs).bind fun vs => some (v :: vs)
theorem resB_ok (T : List (Nat × TyI)) (s : St) : ∀ rs,Gives (resB T s rs) (resA T s rs)
 | [] => Gives.one _
 | .tmp t :: rs => by
   intro vs h K hK
   unfold resA
   rw [force_eq]
   exact (resB_ok T s rs).map (fun vs => s.tm t :: vs) vs h K hK
 | .cell a t :: rs => (aLoadB_ok T none t (s.tm a) s).bind fun v => (resB_ok T s rs).map fun vs => v :: vs
def fnOk (P : Program) (f : FuncId) (fn : Func) : Bool :=
 match fn.body with
 | some cd => and (and (enters P f) (codeOk P fn.ntmps cd)) (fn.results.toList.all fun r => match r with | .tmp t => Nat.blt t fn.ntmps | .cell a _ => Nat.blt a fn.ntmps)
 | none => false
def FTok (P : Program) (FT : List (Nat × Func)) : Prop:=∀ f fn,look FT f = some fn -> P.funcs[f]? = some fn∧fnOk P f fn = true
theorem FTok.nil (P : Program) : FTok P []:=fun f fn h => by cases h
theorem FTok.cons {P : Program} {FT : List (Nat × Func)} {f : Nat} {fn : Func} (h1 : P.funcs[f]? = some fn) (h2 : fnOk P f fn = true) (h : FTok P FT) : FTok P ((f,fn) :: FT):=by
 intro g gn hg
 unfold look at hg
 cases hb : Nat.beq g f with
 | true =>
  rw [hb] at hg
  simp only [cond_true,Option.some.injEq] at hg
  subst hg
  rw [Nat.eq_of_beq_eq_true hb]
  exact ⟨h1,h2⟩
 | false => rw [hb] at hg; exact h g gn hg
section
variable (T : List (Nat × TyI)) (gl : List (Nat × AV)) (FT : List (Nat × Func)) (fuel : Nat) (kn : FuncId -> List AV -> Option AV)
def calP : Cal:=fun f vs s => (toPsB s.hp vs).bind fun ds => forceVs ds fun ds => (kn f ds).bind fun r => match plainR r with | true => some (r,s) | false => none
def calS : Cal:=fun f vs s => match boxy s.hp vs with
 | true => calP kn f vs s
 | false => (toDAsB s.hp vs).bind fun ds => forceVs ds fun ds => (kn f ds).bind fun r => match plainR r with | true => some (r,s) | false => some (r,⟨s.tm,frz (keysAs vs) s.hp,s.nx⟩)
def calW : Cal:=fun f vs s => match boxy s.hp vs with
 | true => calP kn f vs s
 | false => (toWsB s.hp vs).bind fun ds => forceVs ds fun ds => (kn f ds).bind fun r => match plainR r with | true => some (r,s) | false => some (r,⟨s.tm,frzW (keysWs s.hp vs) s.hp,s.nx⟩)
def eqBo : Bool -> Bool -> Bool
 | true,true => true
 | false,false => true
 | _,_ => false
theorem eqBo_ok {a b : Bool} (h : eqBo a b = true) : a = b:=by cases a <;> cases b <;> first | rfl | cases h
mutual
def eqV : AV -> AV -> Bool
 | .int k a,.int k' b => and (eqK k k') (dec (a = b))
 | .bool a,.bool b => eqBo a b
 | .nil,.nil => true
 | .undef,.undef => true
 | .sl r,.sl r' => eqRs r r'
 | .agg c,.agg c' => eqVs c c'
 | .bp k o,.bp k' o' => and (Nat.beq k k') (Nat.beq o o')
 | .ms k o n,.ms k' o' n' => and (Nat.beq k k') (and (Nat.beq o o') (Nat.beq n n'))
 | .fn f c,.fn g c' => and (Nat.beq f g) (eqVs c c')
 | _,_ => false
def eqVs : List AV -> List AV -> Bool
 | [],[] => true
 | a :: l,b :: m => and (eqV a b) (eqVs l m)
 | _,_ => false
def eqRs : List (List AV) -> List (List AV) -> Bool
 | [],[] => true
 | a :: l,b :: m => and (eqVs a b) (eqRs l m)
 | _,_ => false
end
mutual
theorem eqV_ok : ∀ (a b : AV),eqV a b = true -> a = b
 | .int k a,b,h => by
   cases b <;> simp only [eqV,Bool.and_eq_true] at h <;> first | (cases h; done) | skip
   rw [of_decide_eq_true h.1,dec_ok h.2]
 | .bool a,b,h => by
   cases b <;> simp only [eqV] at h <;> first | (cases h; done) | skip
   rw [eqBo_ok h]
 | .nil,b,h => by cases b <;> simp only [eqV] at h <;> first | rfl | (cases h; done)
 | .undef,b,h => by cases b <;> simp only [eqV] at h <;> first | rfl | (cases h; done)
 | .sl r,b,h => by
   cases b <;> simp only [eqV] at h <;> first | (cases h; done) | skip
   rw [eqRs_ok _ _ h]
 | .agg r,b,h => by
   cases b <;> simp only [eqV] at h <;> first | (cases h; done) | skip
   rw [eqVs_ok _ _ h]
 | .bp k o,b,h => by
   cases b <;> simp only [eqV,Bool.and_eq_true] at h <;> first | (cases h; done) | skip
   rw [Nat.eq_of_beq_eq_true h.1,Nat.eq_of_beq_eq_true h.2]
 | .ms k o n,b,h => by
   cases b <;> simp only [eqV,Bool.and_eq_true] at h <;> first | (cases h; done) | skip
   rw [Nat.eq_of_beq_eq_true h.1,Nat.eq_of_beq_eq_true h.2.1,Nat.eq_of_beq_eq_true h.2.2]
 | .fn f c,b,h => by
   cases b <;> simp only [eqV,Bool.and_eq_true] at h <;> first | (cases h; done) | skip
   rw [Nat.eq_of_beq_eq_true h.1,eqVs_ok _ _ h.2]
 | .str s,b,h => by cases b <;> simp only [eqV] at h <;> cases h
 | .tup s,b,h => by cases b <;> simp only [eqV] at h <;> cases h
 | .ap _ _ _,b,h => by cases b <;> simp only [eqV] at h <;> cases h
 | .er _ _,b,h => by cases b <;> simp only [eqV] at h <;> cases h
 | .yl _,b,h => by cases b <;> simp only [eqV] at h <;> cases h
 | .lit _,b,h => by cases b <;> simp only [eqV] at h <;> cases h
theorem eqVs_ok : ∀ (l m : List AV),eqVs l m = true -> l = m
 | [],m,h => by cases m <;> simp only [eqVs] at h <;> first | rfl | (cases h; done)
 | a :: l,m,h => by
   cases m with
   | nil => simp only [eqVs] at h; cases h
   | cons b m =>
    simp only [eqVs,Bool.and_eq_true] at h
    rw [eqV_ok _ _ h.1,eqVs_ok _ _ h.2]
theorem eqRs_ok : ∀ (l m : List (List AV)),eqRs l m = true -> l = m
 | [],m,h => by cases m <;> simp only [eqRs] at h <;> first | rfl | (cases h; done)
 | a :: l,m,h => by
   cases m with
   | nil => simp only [eqRs] at h; cases h
   | cons b m =>
    simp only [eqRs,Bool.and_eq_true] at h
    rw [eqVs_ok _ _ h.1,eqRs_ok _ _ h.2]
end
def eqB : Option Blk -> Option Blk -> Bool
 | none,_ => true
 | some (.box cs),some (.box ds) => eqVs cs ds
 | some (.own e cs),some (.own e' ds) => and (Nat.beq e e') (eqVs cs ds)
 | some (.arr sz rs lv),some (.arr sz' rs' lv') => and (and (Nat.beq sz.1 sz'.1) (Nat.beq sz.2 sz'.2)) (and (eqRs rs rs') (eqBo lv lv'))
 | some .res,some .res => true
 | _,_ => false
theorem eqB_ok : ∀ {a b : Option Blk},eqB a b = true -> (a = none ∨ a = b):=by
 intro a b h
 unfold eqB at h
 split at h
 ·exact .inl rfl
 ·right; rw [eqVs_ok _ _ h]
 ·right
  simp only [Bool.and_eq_true] at h
  rw [Nat.eq_of_beq_eq_true h.1,eqVs_ok _ _ h.2]
 ·right
  rename_i sz rs lv sz' rs' lv'
  simp only [Bool.and_eq_true] at h
  obtain ⟨s1,s2⟩:=sz
  obtain ⟨s3,s4⟩:=sz'
  have e1 : s1 = s3:=Nat.eq_of_beq_eq_true h.1.1
  have e2 : s2 = s4:=Nat.eq_of_beq_eq_true h.1.2
  rw [e1,e2,eqRs_ok _ _ h.2.1,eqBo_ok h.2.2]
 ·exact .inr rfl
 ·cases h
def hpSame (h h' : Nat -> Option Blk) : Nat -> Bool
 | 0 => true
 | n + 1 => and (eqB (h n) (h' n)) (hpSame h h' n)
theorem hpSame_ok {h h' : Nat -> Option Blk} : ∀ {n : Nat},hpSame h h' n = true -> ∀ k,k < n -> (h k = none ∨ h k = h' k)
 | 0,_,k,hk => by omega
 | n + 1,e,k,hk => by
   simp only [hpSame,Bool.and_eq_true] at e
   by_cases c : k = n
   ·subst c; exact eqB_ok e.1
   ·exact hpSame_ok e.2 k (by omega)
def cleanB (n : Nat) (hp : Nat -> Option Blk) : Nat -> Bool
 | 0 => true
 | k + 1 => and (blB n (hp k)) (cleanB n hp k)
theorem cleanB_ok {n : Nat} {hp : Nat -> Option Blk} : ∀ {k : Nat},cleanB n hp k = true -> clean n hp k
 | 0,_ => trivial
 | k + 1,h => by
   simp only [cleanB,Bool.and_eq_true] at h
   exact ⟨h.1,cleanB_ok h.2⟩
def calE (cal : Cal) : Cal:=fun f vs s => match cal f vs s with
 | some (r,s') => guardB (and (bl s.nx r) (and (cleanB s.nx s'.hp s.nx) (hpSame s.hp s'.hp s.nx))) (some (r,s))
 | none => none
def calX (cal : Cal) : Cal:=fun f vs s => match ptrs vs with
 | false => calS kn f vs s
 | true => calE cal f vs s
def exitOk : Exit -> Bool | .normal => true | .ret => true | _ => false
def calI : Nat -> Cal
 | 0 => calW kn
 | d + 1 => fun f vs s => match calW kn f vs s with
  | some r => some r
  | none => match look FT f with
   | none => none
   | some fn => match fn.body with
    | none => none
    | some cd => guardB (Nat.ble vs.length fn.ntmps) (match runC T gl (calX kn (calI d)) (calI d) fn.ntmps fuel cd ⟨tmOf vs,s.hp,s.nx⟩ with
     | some (e,s') => guardB (exitOk e) ((resB T s' fn.results.toList).bind fun vs => some (resV vs,⟨s.tm,s'.hp,s'.nx⟩))
     | none => none)
def runFn (f : FuncId) (ds : List AV) : Option AV :=
 match look FT f with
 | none => none
 | some fn => match fn.body with
  | none => none
  | some cd => guardB (Nat.ble ds.length fn.ntmps) (match runC T gl (calX kn (calI T gl FT fuel kn 3)) (calI T gl FT fuel kn 3) fn.ntmps fuel cd ⟨tmOf ds,fun _ => none,0⟩ with
   | some (e,s') => guardB (exitOk e) ((resB T s' fn.results.toList).bind fun vs => (toWRB s'.hp (resV vs)).bind fun d => forceV d fun d => some d)
   | none => none)
def runF (base : FuncId -> List AV -> Option AV) : Nat -> FuncId -> List AV -> Option AV
 | 0 => base
 | n + 1 => fun f ds => match base f ds with
  | some r => some r
  | none => runFn T gl FT fuel (runF base n) f ds
variable {T gl FT fuel kn} {P : Program}
theorem calP_ok (hk : ∀ f ds r,kn f ds = some r -> Spec P gl f ds r) (f : FuncId) (vs : List AV) (s : St) {v : AV} {s' : St} (h : calP kn f vs s = some (v,s')) {K : AV -> St -> Prop} (hK : K v s') :
  toPs s.hp vs fun ds => ∃ r,Spec P gl f ds r∧match plainR r with | true => K r s | false => False:=by
 unfold calP at h
 simp only [forceVs_eq] at h
 obtain ⟨ds,h1,h2⟩:=Option.bind_eq_some_iff.1 h
 obtain ⟨r,h3,h4⟩:=Option.bind_eq_some_iff.1 h2
 refine toPsB_ok s.hp vs ds h1 _ ⟨r,hk f ds r h3,?_⟩
 cases hp : plainR r with
 | true => rw [hp] at h4; cases h4; exact hK
 | false => rw [hp] at h4; cases h4
theorem calS_ok (hk : ∀ f ds r,kn f ds = some r -> Spec P gl f ds r) (f : FuncId) (vs : List AV) (s : St) : Give2 (calS kn f vs s) (callS P gl (.fn f) vs s):=by
 intro v s' h K hK
 unfold calS at h
 unfold callS
 simp only
 cases hx : boxy s.hp vs with
 | true => rw [hx] at h; exact calP_ok hk f vs s h hK
 | false =>
 rw [hx] at h
 simp only [forceVs_eq] at h
 obtain ⟨ds,h1,h2⟩:=Option.bind_eq_some_iff.1 h
 obtain ⟨r,h3,h4⟩:=Option.bind_eq_some_iff.1 h2
 refine toDAsB_ok s.hp vs ds h1 _ ⟨r,hk f ds r h3,?_⟩
 cases hp : plainR r with
 | true => rw [hp] at h4; cases h4; exact hK
 | false => rw [hp] at h4; cases h4; exact hK
theorem calW_ok (hk : ∀ f ds r,kn f ds = some r -> Spec P gl f ds r) (f : FuncId) (vs : List AV) (s : St) : Give2 (calW kn f vs s) (callW P gl (.fn f) vs s):=by
 intro v s' h K hK
 unfold calW at h
 unfold callW
 simp only
 cases hx : boxy s.hp vs with
 | true => rw [hx] at h; exact calP_ok hk f vs s h hK
 | false =>
 rw [hx] at h
 simp only [forceVs_eq] at h
 obtain ⟨ds,h1,h2⟩:=Option.bind_eq_some_iff.1 h
 obtain ⟨r,h3,h4⟩:=Option.bind_eq_some_iff.1 h2
 refine toWsB_ok s.hp vs ds h1 _ ⟨r,hk f ds r h3,?_⟩
 cases hp : plainR r with
 | true => rw [hp] at h4; cases h4; exact hK
 | false => rw [hp] at h4; cases h4; exact hK
theorem fnOk_parts {f : FuncId} {fn : Func} (h : fnOk P f fn = true) : ∃ cd,fn.body = some cd∧enters P f = true∧codeOk P fn.ntmps cd = true ∧
  (fn.results.toList.all fun r => match r with | .tmp t => Nat.blt t fn.ntmps | .cell a _ => Nat.blt a fn.ntmps) = true:=by
 unfold fnOk at h
 cases hb : fn.body with
 | none => rw [hb] at h; cases h
 | some cd =>
  rw [hb] at h
  simp only [Bool.and_eq_true] at h
  exact ⟨cd,rfl,h.1.1,h.1.2,h.2⟩
theorem exitOk_or {e : Exit} (h : exitOk e = true) : e = .normal ∨ e = .ret:=by
 cases e <;> first | exact .inl rfl | exact .inr rfl | cases h
theorem calX_ok {cal : Cal} {H : Tg -> List AV -> St -> (AV -> St -> Prop) -> Prop} (hk : ∀ f ds r,kn f ds = some r -> Spec P gl f ds r) (hc : ∀ f vs s,Give2 (cal f vs s) (H (.fn f) vs s))
  (ht : ∀ f vs s r s',cal f vs s = some (r,s') -> ∀ tm,cal f vs ⟨tm,s.hp,s.nx⟩ = some (r,⟨tm,s'.hp,s'.nx⟩)) (f : FuncId) (vs : List AV) (s : St) : Give2 (calX kn cal f vs s) (callX P gl H (.fn f) vs s):=by
 intro v s' h K hK
 unfold calX at h
 unfold callX
 cases hp : ptrs vs with
 | false => rw [hp] at h; exact calS_ok hk f vs s v s' h K hK
 | true =>
  rw [hp] at h
  simp only at h ⊢
  unfold calE at h
  cases hr : cal f vs s with
  | none => rw [hr] at h; cases h
  | some p =>
   obtain ⟨r,s1⟩:=p
   rw [hr] at h
   obtain ⟨h1,h2⟩:=guardB_some h
   simp only [Bool.and_eq_true] at h1
   cases h2
   exact ⟨v,hK,fun tm => hc f vs _ v _ (ht f vs s v s1 hr tm) _ ⟨rfl,h1.1,cleanB_ok h1.2.1,hpSame_ok h1.2.2⟩⟩
theorem calP_tm (f : FuncId) (vs : List AV) (s : St) (r : AV) (s' : St) (h : calP kn f vs s = some (r,s')) (tm : Nat -> AV) : calP kn f vs ⟨tm,s.hp,s.nx⟩ = some (r,⟨tm,s'.hp,s'.nx⟩):=by
 unfold calP at h ⊢
 simp only [forceVs_eq] at h ⊢
 obtain ⟨ds,h1,h2⟩:=Option.bind_eq_some_iff.1 h
 obtain ⟨q,h3,h4⟩:=Option.bind_eq_some_iff.1 h2
 rw [h1]
 simp only [Option.bind_some,h3]
 cases hp : plainR q with
 | true => rw [hp] at h4; cases h4; rfl
 | false => rw [hp] at h4; cases h4
theorem calW_tm (f : FuncId) (vs : List AV) (s : St) (r : AV) (s' : St) (h : calW kn f vs s = some (r,s')) (tm : Nat -> AV) : calW kn f vs ⟨tm,s.hp,s.nx⟩ = some (r,⟨tm,s'.hp,s'.nx⟩):=by
 unfold calW at h ⊢
 simp only at h ⊢
 cases hx : boxy s.hp vs with
 | true => rw [hx] at h; exact calP_tm f vs s r s' h tm
 | false =>
  rw [hx] at h
  simp only [forceVs_eq] at h ⊢
  obtain ⟨ds,h1,h2⟩:=Option.bind_eq_some_iff.1 h
  obtain ⟨q,h3,h4⟩:=Option.bind_eq_some_iff.1 h2
  rw [h1]
  simp only [Option.bind_some,h3]
  cases hp : plainR q with
  | true => rw [hp] at h4; cases h4; rfl
  | false => rw [hp] at h4; cases h4; rfl
theorem calI_tm : ∀ (d : Nat) (f : FuncId) (vs : List AV) (s : St) (r : AV) (s' : St),calI T gl FT fuel kn d f vs s = some (r,s') -> ∀ tm,calI T gl FT fuel kn d f vs ⟨tm,s.hp,s.nx⟩ = some (r,⟨tm,s'.hp,s'.nx⟩)
 | 0,f,vs,s,r,s',h,tm => calW_tm f vs s r s' h tm
 | d + 1,f,vs,s,r,s',h,tm => by
   unfold calI at h ⊢
   cases hw : calW kn f vs s with
   | some p =>
    obtain ⟨q,s1⟩:=p
    rw [hw] at h; cases h
    rw [calW_tm f vs s _ _ hw tm]
   | none =>
    have hw' : calW kn f vs ⟨tm,s.hp,s.nx⟩ = none:=by
     cases hq : calW kn f vs ⟨tm,s.hp,s.nx⟩ with
     | none => rfl
     | some p =>
      obtain ⟨q,s1⟩:=p
      have:=calW_tm f vs _ _ _ hq s.tm
      rw [hw] at this; cases this
    rw [hw']
    rw [hw] at h
    simp only at h ⊢
    cases hl : look FT f with
    | none => rw [hl] at h; cases h
    | some fn =>
     rw [hl] at h
     simp only at h ⊢
     cases hb : fn.body with
     | none => rw [hb] at h; cases h
     | some cd =>
      rw [hb] at h
      simp only at h ⊢
      obtain ⟨h5,h⟩:=guardB_some h
      rw [h5]
      unfold guardB
      cases hr : runC T gl (calX kn (calI T gl FT fuel kn d)) (calI T gl FT fuel kn d) fn.ntmps fuel cd ⟨tmOf vs,s.hp,s.nx⟩ with
      | none => rw [hr] at h; cases h
      | some p =>
       obtain ⟨e,s1⟩:=p
       rw [hr] at h
       simp only at h ⊢
       obtain ⟨h6,h⟩:=guardB_some h
       rw [h6]
       simp only
       obtain ⟨us,h7,h8⟩:=Option.bind_eq_some_iff.1 h
       cases h8
       rw [h7]
       rfl
theorem calI_ok (hF : FTok P FT) (hk : ∀ f ds r,kn f ds = some r -> Spec P gl f ds r) : ∀ (d : Nat) (f : FuncId) (vs : List AV) (s : St),Give2 (calI T gl FT fuel kn d f vs s) (Hn P T gl d (.fn f) vs s)
 | 0,f,vs,s => calW_ok hk f vs s
 | d + 1,f,vs,s => by
   intro v s' h K hK
   unfold calI at h
   unfold Hn
   cases hw : calW kn f vs s with
   | some p => rw [hw] at h; cases h; exact .inl (calW_ok hk f vs s v s' hw K hK)
   | none =>
    rw [hw] at h
    right
    cases hl : look FT f with
    | none => rw [hl] at h; cases h
    | some fn =>
     rw [hl] at h
     obtain ⟨h1,h2⟩:=hF f fn hl
     obtain ⟨cd,g1,g2,g3,g4⟩:=fnOk_parts h2
     simp only [g1] at h
     obtain ⟨h5,h⟩:=guardB_some h
     refine .inl ⟨fn,cd,h1,g1,g2,g3,h5,g4,?_⟩
     cases hr : runC T gl (calX kn (calI T gl FT fuel kn d)) (calI T gl FT fuel kn d) fn.ntmps fuel cd ⟨tmOf vs,s.hp,s.nx⟩ with
     | none => rw [hr] at h; cases h
     | some p =>
      obtain ⟨e,s1⟩:=p
      rw [hr] at h
      obtain ⟨h6,h⟩:=guardB_some h
      obtain ⟨us,h7,h8⟩:=Option.bind_eq_some_iff.1 h
      cases h8
      exact runC_ok (calX_ok hk (calI_ok hF hk d) (calI_tm d)) (calI_ok hF hk d) cd _ e s1 _ hr ⟨exitOk_or h6,resB_ok T s1 _ us h7 _ hK⟩
theorem runFn_spec (hT : TOk P T) (hmo : P.follows .mixedOrders = true) (hF : FTok P FT) (hk : ∀ f ds r,kn f ds = some r -> Spec P gl f ds r) {f : FuncId} {ds : List AV} {r : AV} (h : runFn T gl FT fuel kn f ds = some r) : Spec P gl f ds r:=by
 unfold runFn at h
 cases hl : look FT f with
 | none => rw [hl] at h; cases h
 | some fn =>
  rw [hl] at h
  obtain ⟨h1,h2⟩:=hF f fn hl
  obtain ⟨cd,g1,g2,g3,g4⟩:=fnOk_parts h2
  simp only [g1] at h
  obtain ⟨h5,h⟩:=guardB_some h
  refine spec_of hT hmo 3 h1 g1 g2 g3 h5 g4 ?_
  cases hr : runC T gl (calX kn (calI T gl FT fuel kn 3)) (calI T gl FT fuel kn 3) fn.ntmps fuel cd ⟨tmOf ds,fun _ => none,0⟩ with
  | none => rw [hr] at h; cases h
  | some p =>
   obtain ⟨e,s1⟩:=p
   rw [hr] at h
   obtain ⟨h6,h⟩:=guardB_some h
   obtain ⟨us,h7,h8⟩:=Option.bind_eq_some_iff.1 h
   obtain ⟨d,h9,h10⟩:=Option.bind_eq_some_iff.1 h8
   rw [forceV_eq] at h10
   cases h10
   exact runC_ok (calX_ok hk (calI_ok hF hk 3) (calI_tm 3)) (calI_ok hF hk 3) cd _ e s1 _ hr ⟨exitOk_or h6,resB_ok T s1 _ us h7 _ (toWRB_ok _ _ r h9 _ rfl)⟩
theorem runF_spec (hT : TOk P T) (hmo : P.follows .mixedOrders = true) (hF : FTok P FT) {base : FuncId -> List AV -> Option AV} (hb : ∀ f ds r,base f ds = some r -> Spec P gl f ds r) : ∀ (n : Nat) {f : FuncId} {ds : List AV} {r : AV},runF T gl FT fuel base n f ds = some r -> Spec P gl f ds r
 | 0,f,ds,r,h => hb f ds r h
 | n + 1,f,ds,r,h => by
   unfold runF at h
   cases hbs : base f ds with
   | some r' => rw [hbs] at h; cases h; exact hb f ds _ hbs
   | none =>
    rw [hbs] at h
    exact runFn_spec hT hmo hF (fun f ds r => runF_spec hT hmo hF hb n) h
end
end Ab
end
