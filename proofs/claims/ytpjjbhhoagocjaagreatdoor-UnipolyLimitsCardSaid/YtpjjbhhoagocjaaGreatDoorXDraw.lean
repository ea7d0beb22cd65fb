import Derived.Test.YtpjjbhhoagocjaaGreatDoorXGb
namespace Ab
open Go
def Sel {α : Type} (φ : (α -> Prop) -> Prop) : Prop:=∀ K,φ K -> ∃ v,K v∧∀ K',K' v -> φ K'
theorem Sel.one {α : Type} (v : α) : Sel (fun K => K v):=fun _ h => ⟨v,h,fun _ h => h⟩
theorem Sel.no {α : Type} : Sel (α:=α) (fun _ => False):=fun _ h => h.elim
theorem Sel.and {α : Type} {C : Prop} {φ : (α -> Prop) -> Prop} (h : Sel φ) : Sel (fun K => C∧φ K):=fun K ⟨c,hk⟩ => by
 obtain ⟨v,h1,h2⟩:=h K hk
 exact ⟨v,h1,fun K' h' => ⟨c,h2 K' h'⟩⟩
theorem Sel.ex {α β : Type} {φ : β -> (α -> Prop) -> Prop} (h : ∀ b,Sel (φ b)) : Sel (fun K => ∃ b,φ b K):=fun K ⟨b,hk⟩ => by
 obtain ⟨v,h1,h2⟩:=h b K hk
 exact ⟨v,h1,fun K' h' => ⟨b,h2 K' h'⟩⟩
theorem Sel.force (x : AV) : Sel (Ab.force x):=fun K h => by
 rw [force_eq] at h
 exact ⟨x,h,fun K' h' => by rw [force_eq]; exact h'⟩
theorem Sel.forceL (x : List AV) : Sel (Ab.forceL x):=fun K h => by
 rw [forceL_eq] at h
 exact ⟨x,h,fun K' h' => by rw [forceL_eq]; exact h'⟩
theorem Sel.map {α β : Type} {φ : (α -> Prop) -> Prop} (h : Sel φ) (f : α -> β) : Sel (fun K => φ fun a => K (f a)):=fun K hk => by
 obtain ⟨v,h1,h2⟩:=h _ hk
 exact ⟨f v,h1,fun K' h' => h2 (fun a => K' (f a)) h'⟩
theorem Sel.inLim {α : Type} {lim : Option (Nat -> Bool)} {k : Nat} {φ : (α -> Prop) -> Prop} (h : Sel φ) : Sel (fun K => Ab.inLim lim k (φ K)):=by
 unfold Ab.inLim
 cases lim with
 | none => exact h
 | some n => exact h.and
theorem Sel.bind {α β : Type} {φ : (α -> Prop) -> Prop} (h : Sel φ) {ψ : α -> (β -> Prop) -> Prop} (g : ∀ a,Sel (ψ a)) : Sel (fun K => φ fun a => ψ a K):=fun K hk => by
 obtain ⟨v,h1,h2⟩:=h _ hk
 obtain ⟨u,g1,g2⟩:=g v K h1
 exact ⟨u,g1,fun K' h' => h2 (fun a => ψ a K') (g2 K' h')⟩
theorem Sel.mono {α : Type} {φ : (α -> Prop) -> Prop} (h : Sel φ) {K K' : α -> Prop} (hk : ∀ v,K v -> K' v) (g : φ K) : φ K':=by
 obtain ⟨v,h1,h2⟩:=h K g
 exact h2 K' (hk v h1)
section
variable (T : List (Nat × TyI)) (gl : List (Nat × AV)) (H : Tg -> List AV -> St -> (AV -> St -> Prop) -> Prop)
def aVal (lim : Option (Nat -> Bool)) (o : Oper) (s : St) (K : AV -> Prop) : Prop :=
 match o.op with
 | .move x | .assign x => force (ev gl s x) K
 | .pick c a b => match ev gl s c with | .bool t => pickA t (ev gl s a) (ev gl s b) K | _ => False
 | .build t ps => match look T t with
  | some i => match (layOf i) with
   | [] => False
   | _ :: _ => match and i.fo (ones (cells i.zv)) with | true => fillA (layOf i) (evParts gl s ps.toList) (cells i.zv) fun cs => K (.agg cs) | false => False
  | none => False
 | .load t a => aLoad T lim t (ev gl s a) s K
 | .nilCheck x => match ev gl s x with | .bp k i => K (.bp k i) | .ap k r i => K (.ap k r i) | .er row i => K (.er row i) | .fn f c => K (.fn f c) | _ => False
 | .binOp op t x y _ => bin (look T t) op (ev gl s x) (ev gl s y) K
 | .unOp op _ x => un op (ev gl s x) K
 | .convert src d x => match (look T d).bind fun i => i.k with
  | some k => match ev gl s x with | .int _ n => K (.int k (k.wrap n)) | _ => False
  | none => aStrOf T src d (ev gl s x) K
 | .makeFunc (.func f) ⟨[]⟩ cap => forceL (evs gl s cap.toList) fun cs => K (.fn f cs)
 | .slice t x lo hi none => aSlice T lim t (ev gl s x) (lo.map (ev gl s)) (hi.map (ev gl s)) s K
 | .fieldAddr t x f => aFieldAddr T t (ev gl s x) f K
 | .indexAddr t x i => aIndexAddr T lim t (ev gl s x) (ev gl s i) s K
 | .index t x i => aIndexU T t (ev gl s x) (ev gl s i) K
 | .field t x f => aField T t (ev gl s x) f K
 | .extract x i => match ev gl s x with | .tup vs => (match nth vs i with | some v => force v K | none => False) | _ => False
 | .call { callee:=.builtin b,args,argTypes } =>
  match b,evs gl s args.toList,argTypes.toList with
  | .len,[x],[t] => (match (look T t).bind fun i => i.sl with | some _ => lenOf x fun n => K (.int .i64 n) | none => False)
  | .min,vs,_ => aMinMax false vs K
  | .max,vs,_ => aMinMax true vs K
  | _,_,_ => False
 | _ => False
variable {T gl H}
def quietOp (o : Op) : Bool:=or (pureOp o) (readOp o)
theorem aOp_quiet {lim : Option (Nat -> Bool)} {o : Oper} {s : St} {K : St -> Prop} (hq : quietOp o.op = true) : aOp T gl H lim o s K = aVal T gl lim o s fun v => K (put o.dst v s):=by
 obtain ⟨dst,op,type,pos,after,guard⟩:=o
 cases op with
 | call cl =>
  obtain ⟨callee,args,ts⟩:=cl
  cases callee with
  | builtin b =>
   cases b <;> first | (cases hq; done) | skip
   ·unfold aOp aVal
    dsimp only
    generalize evs gl s args.toList = xs
    generalize ts.toList = us
    rcases xs with _ | ⟨x,_ | ⟨y,_ | ⟨z,l⟩⟩⟩ <;> rcases us with _ | ⟨t,_ | ⟨u,_ | ⟨v,m⟩⟩⟩ <;> rfl
   ·unfold aOp aVal; dsimp only
   ·unfold aOp aVal; dsimp only
  | _ => cases hq
 | makeFunc fn first cap =>
  cases fn <;> first | rfl | (obtain ⟨first⟩:=first; cases first <;> rfl)
 | slice t x lo hi mx => cases mx <;> rfl
 | build t ps =>
  simp only [aOp,aVal]
  rfl
 | _ => first | rfl | (cases hq; done)
theorem Sel.rd {ag : Bool} {sz : Nat} {row : List AV} {o : Nat} : Sel (Ab.rd ag sz row o):=by
 unfold Ab.rd
 cases ag with
 | false =>
  simp only
  cases nth row o with
  | none => exact Sel.no
  | some v => exact Sel.force v
 | true =>
  simp only
  cases Nat.ble (o + sz) (lenL row) with
  | false => exact Sel.no
  | true => exact (Sel.forceL _).map _
theorem Sel.fillA {lay : List (Nat × Nat)} : ∀ (ps : List (Nat × AV)) (cs : List AV),Sel (Ab.fillA lay ps cs)
 | [],cs => Sel.forceL cs
 | (i,v) :: ps,cs => by
   show Sel (fun K => Ab.fillA lay ((i,v) :: ps) cs K)
   simp only [Ab.fillA]
   cases nth lay i with
   | none => exact Sel.no
   | some p =>
    obtain ⟨off,size⟩:=p
    simp only
    cases Bool.and (Bool.and (Nat.beq (lenL (cells v)) size) (Nat.ble (off + size) (lenL cs))) (ones (cells v)) with
    | false => exact Sel.no
    | true => exact Sel.fillA ps _
theorem Sel.aStrOf {t d : TypeId} {x : AV} : Sel (Ab.aStrOf T t d x):=by
 unfold Ab.aStrOf
 cases ((look T t).bind fun i => i.sl).bind (look T) with
 | none => exact Sel.no
 | some e =>
  simp only
  split
  ·cases look T d with
   | none => exact Sel.no
   | some i =>
    simp only
    cases i.st with
    | false => exact Sel.no
    | true =>
     simp only
     split
     ·split
      ·exact Sel.one _
      ·exact Sel.no
     ·exact Sel.no
  ·exact Sel.no
theorem Sel.lenOf {x : AV} : Sel (Ab.lenOf x):=by
 cases x <;> first | exact Sel.no | exact Sel.one _
theorem Sel.pickA {t : Bool} {x y : AV} : Sel (Ab.pickA t x y):=by
 have gen : Sel (fun K => (t = true -> Ab.force x K)∧(t = false -> Ab.force y K)):=by
  intro K hk
  cases t with
  | true =>
   obtain ⟨v,h1,h2⟩:=Sel.force x K (hk.1 rfl)
   exact ⟨v,h1,fun K' h' => ⟨fun _ => h2 K' h',fun h => (by cases h)⟩⟩
  | false =>
   obtain ⟨v,h1,h2⟩:=Sel.force y K (hk.2 rfl)
   exact ⟨v,h1,fun K' h' => ⟨fun h => (by cases h),fun _ => h2 K' h'⟩⟩
 cases x with
 | bool a => cases y <;> first | exact Sel.one _ | exact gen
 | _ => exact gen
theorem Sel.eqAll : ∀ (ks : List Bool) (xs ys : List AV),Sel (Ab.eqAll ks xs ys)
 | [],xs,ys => by cases xs <;> cases ys <;> first | exact Sel.one _ | exact Sel.no
 | k :: ks,[],ys => by cases k <;> exact Sel.no
 | k :: ks,x :: xs,ys => by
  cases ys with
  | nil => cases k <;> cases x <;> exact Sel.no
  | cons y ys =>
   cases k with
   | true =>
    cases x with
    | int k a =>
     cases y with
     | int k' b =>
      show Sel (fun K => Ab.eqAll (true :: ks) (.int k a :: xs) (.int k' b :: ys) K)
      simp only [Ab.eqAll]
      cases eqK k k' with
      | false => exact Sel.no
      | true => exact Sel.bind (Sel.eqAll ks xs ys) fun r => Sel.one _
     | _ => exact Sel.no
    | _ => exact Sel.no
   | false =>
    cases x with
    | bool a =>
     cases y with
     | bool b =>
      show Sel (fun K => Ab.eqAll (false :: ks) (.bool a :: xs) (.bool b :: ys) K)
      simp only [Ab.eqAll]
      exact Sel.bind (Sel.eqAll ks xs ys) fun r => Sel.one _
     | _ => exact Sel.no
    | _ => exact Sel.no
theorem Sel.bin {tb : Option TyI} {op : BinOp} {x y : AV} : Sel (Ab.bin tb op x y):=by
 cases x with
 | int k a =>
  cases y with
  | int k' b =>
   show Sel (fun K => Ab.bin tb op (.int k a) (.int k' b) K)
   cases op <;> simp only [Ab.bin]
   all_goals first
    | exact (Sel.one _).and
    | (cases eqK k k' <;> first | exact Sel.no | exact Sel.one _ | exact (Sel.one _).and)
  | _ => exact Sel.no
 | bool a =>
  cases y with
  | bool b =>
   show Sel (fun K => Ab.bin tb op (.bool a) (.bool b) K)
   simp only [Ab.bin]
   cases tb with
   | none => exact Sel.no
   | some i =>
    simp only
    cases i.bo with
    | false => exact Sel.no
    | true => cases op <;> first | exact Sel.no | exact Sel.one _
  | _ => exact Sel.no
 | agg xs =>
  cases y with
  | agg ys =>
   show Sel (fun K => Ab.bin tb op (.agg xs) (.agg ys) K)
   simp only [Ab.bin]
   cases tb with
   | none => exact Sel.no
   | some i =>
    simp only
    cases i.eqs with
    | none => exact Sel.no
    | some ks => cases op <;> first | exact Sel.no | exact Sel.bind (Sel.eqAll ks xs ys) fun r => Sel.one _
  | _ => exact Sel.no
 | str a =>
  cases y with
  | str b => cases op <;> first | exact Sel.no | exact Sel.one _
  | _ => exact Sel.no
 | _ => exact Sel.no
theorem Sel.un {op : UnOp} {x : AV} : Sel (Ab.un op x):=by
 cases x <;> cases op <;> first | exact Sel.no | exact Sel.one _
theorem Sel.aLoad {lim : Option (Nat -> Bool)} {t : TypeId} {a : AV} {s : St} : Sel (Ab.aLoad T lim t a s):=by
 unfold Ab.aLoad
 cases look T t with
 | none => exact Sel.no
 | some i =>
  cases a with
  | bp k o =>
   refine Sel.inLim ?_
   cases s.hp k with
   | none => exact Sel.no
   | some b => cases b <;> first | exact Sel.rd | exact Sel.no
  | ap k r o =>
   refine Sel.inLim ?_
   cases s.hp k with
   | none => exact Sel.no
   | some b => cases b <;> first | exact Sel.no | exact Sel.ex fun row => Sel.and Sel.rd
  | er row o => exact Sel.rd
  | _ => exact Sel.no
theorem Sel.aFieldAddr {t : TypeId} {x : AV} {f : Nat} : Sel (Ab.aFieldAddr T t x f):=by
 unfold Ab.aFieldAddr
 split
 ·cases x <;> first | exact Sel.no | exact Sel.one _
 ·exact Sel.no
theorem Sel.aIndexAddr {lim : Option (Nat -> Bool)} {t : TypeId} {x i : AV} {s : St} : Sel (Ab.aIndexAddr T lim t x i s):=by
 unfold Ab.aIndexAddr
 cases look T t with
 | none => exact Sel.no
 | some ty =>
  cases i with
  | int k i =>
   cases x with
   | sl rows =>
    simp only
    cases ty.sl.bind (look T) with
    | none => exact Sel.no
    | some e =>
     refine Sel.and (Sel.ex fun row => Sel.and ?_)
     cases Nat.beq (lenL row) e.sz <;> first | exact Sel.no | exact Sel.one _
   | ms k off n =>
    simp only
    cases ty.sl.bind (look T) with
    | none => exact Sel.no
    | some e =>
     refine Sel.inLim ?_
     cases s.hp k with
     | none => exact Sel.no
     | some b =>
      cases b with
      | res => first | exact hK.elim | (rw [hb] at hK; exact hK.elim) | exact h.elim | (rw [hb] at h; exact h.elim) | (rw [hb] at hK2; exact hK2.elim) | (rw [hb] at hK; simp only at hK; exact hK.elim) | exact Sel.no | exact Gives.none | exact Give2.none | exact toDB_ok hp (.ms k off len) | (have:=Sel.toD (hp:=hp) (.ms k off len); exact this) | exact .inl rfl | (cases hK; done) | (cases h; done)
      | mp _ => first | exact hK.elim | (rw [hb] at hK; exact hK.elim) | exact h.elim | (rw [hb] at h; exact h.elim) | (rw [hb] at hK2; exact hK2.elim) | (rw [hb] at hK; simp only at hK; exact hK.elim) | exact Sel.no | exact Gives.none | exact Give2.none | exact toDB_ok hp (.ms k off len) | (have:=Sel.toD (hp:=hp) (.ms k off len); exact this) | exact .inl rfl | (cases hK; done) | (cases h; done)
      | box _ =>
       simp only
       cases Nat.beq 1 e.sz <;> first | exact Sel.no | exact Sel.and (Sel.and (Sel.one _))
      | own _ _ =>
       simp only
       cases Nat.beq 1 e.sz <;> first | exact Sel.no | exact Sel.and (Sel.and (Sel.one _))
      | arr sz rows lv =>
       simp only
       cases Nat.beq sz.2 e.sz <;> first | exact Sel.no | exact Sel.and (Sel.and (Sel.one _))
   | bp k o => simp only; split <;> first | exact Sel.no | exact Sel.and (Sel.and (Sel.one _))
   | ap k r o => simp only; split <;> first | exact Sel.no | exact Sel.and (Sel.and (Sel.one _))
   | er row o => simp only; split <;> first | exact Sel.no | exact Sel.and (Sel.and (Sel.one _))
   | _ => exact Sel.no
  | _ => exact Sel.no
theorem Sel.aSliceArr {lim : Option (Nat -> Bool)} {t : TypeId} {x : AV} {s : St} : Sel (Ab.aSliceArr T lim t x s):=by
 unfold Ab.aSliceArr
 cases (look T t).bind fun i => i.arr with
 | none => exact Sel.no
 | some p =>
  obtain ⟨n,z⟩:=p
  match z with
  | 0 => exact Sel.no
  | z + 2 => exact Sel.no
  | 1 =>
   cases x with
   | bp k o =>
    cases o with
    | zero =>
     refine Sel.inLim ?_
     cases s.hp k with
     | none => exact Sel.no
     | some b =>
      cases b with
      | box cs => simp only; cases Nat.beq (lenL cs) n <;> first | exact Sel.no | exact Sel.one _
      | _ => exact Sel.no
    | succ o => exact Sel.no
   | _ => exact Sel.no
theorem Sel.aSlice {lim : Option (Nat -> Bool)} {t : TypeId} {x : AV} {lo hi : Option AV} {s : St} : Sel (Ab.aSlice T lim t x lo hi s):=by
 unfold Ab.aSlice
 cases ((look T t).bind fun i => i.sl).bind (look T) with
 | none => cases lo <;> cases hi <;> first | exact Sel.aSliceArr | exact Sel.no
 | some e =>
  refine Sel.bind Sel.lenOf fun n => ?_
  have tail : ∀ h : Nat,Sel (fun K : AV -> Prop => (match lo with
   | none => fun k : Nat -> Prop => k 0
   | some (.int _ l) => fun k => 0 <= l∧l <= (h : Int)∧k l.toNat
   | _ => fun _ => False) fun l =>
    match x with
    | .sl rows => RowsOk e.sz rows∧K (.sl ((rows.take h).drop l))
    | .ms k off _ => Ab.inLim lim k (match s.hp k with
     | some (.arr sz _ _) => match Nat.beq sz.2 e.sz with
      | true => K (.ms k (off + l) (h - l))
      | false => False
     | some (.own _ _) => match Nat.beq 1 e.sz with
      | true => K (.ms k (off + l) (h - l))
      | false => False
     | _ => False)
    | .nil => K .nil
    | _ => False):=by
   intro h
   have inner : ∀ l : Nat,Sel (fun K : AV -> Prop => match x with
    | .sl rows => RowsOk e.sz rows∧K (.sl ((rows.take h).drop l))
    | .ms k off _ => Ab.inLim lim k (match s.hp k with
     | some (.arr sz _ _) => match Nat.beq sz.2 e.sz with
      | true => K (.ms k (off + l) (h - l))
      | false => False
     | some (.own _ _) => match Nat.beq 1 e.sz with
      | true => K (.ms k (off + l) (h - l))
      | false => False
     | _ => False)
    | .nil => K .nil
    | _ => False):=by
    intro l
    cases x with
    | sl rows => exact Sel.and (Sel.one _)
    | nil => exact Sel.one _
    | ms k off n =>
     refine Sel.inLim ?_
     cases s.hp k with
     | none => exact Sel.no
     | some b =>
      cases b with
      | res => first | exact hK.elim | (rw [hb] at hK; exact hK.elim) | exact h.elim | (rw [hb] at h; exact h.elim) | (rw [hb] at hK2; exact hK2.elim) | (rw [hb] at hK; simp only at hK; exact hK.elim) | exact Sel.no | exact Gives.none | exact Give2.none | exact toDB_ok hp (.ms k off len) | (have:=Sel.toD (hp:=hp) (.ms k off len); exact this) | exact .inl rfl | (cases hK; done) | (cases h; done)
      | mp _ => first | exact hK.elim | (rw [hb] at hK; exact hK.elim) | exact h.elim | (rw [hb] at h; exact h.elim) | (rw [hb] at hK2; exact hK2.elim) | (rw [hb] at hK; simp only at hK; exact hK.elim) | exact Sel.no | exact Gives.none | exact Give2.none | exact toDB_ok hp (.ms k off len) | (have:=Sel.toD (hp:=hp) (.ms k off len); exact this) | exact .inl rfl | (cases hK; done) | (cases h; done)
      | box _ => exact Sel.no
      | own _ _ =>
       simp only
       cases Nat.beq 1 e.sz <;> first | exact Sel.no | exact Sel.one _
      | arr sz rows lv =>
       simp only
       cases Nat.beq sz.2 e.sz <;> first | exact Sel.no | exact Sel.one _
    | _ => exact Sel.no
   cases lo with
   | none => exact inner 0
   | some v => cases v <;> first | exact Sel.no | exact Sel.and (Sel.and (inner _))
  cases hi with
  | none => exact tail n
  | some v => cases v <;> first | exact Sel.no | exact Sel.and (Sel.and (tail _))
theorem Sel.aIndex {t : TypeId} {x i : AV} : Sel (Ab.aIndex T t x i):=by
 unfold Ab.aIndex
 cases look T t with
 | none => exact Sel.no
 | some ty =>
  simp only
  cases ty.arr with
  | none => exact Sel.no
  | some p =>
   simp only
   cases ty.ael.bind (look T) with
   | none => exact Sel.no
   | some e =>
    simp only
    cases Bool.and (Nat.beq e.sz 1) (not e.ag) with
    | false =>
     simp only
     cases e.ag with
     | false => exact Sel.no
     | true => cases x <;> first | exact Sel.no | (cases i <;> first | exact Sel.no | exact Sel.and (Sel.and Sel.rd))
    | true =>
     cases x with
     | agg cs => cases i <;> first | exact Sel.no | exact Sel.and (Sel.and (Sel.ex fun v => Sel.and (Sel.force v)))
     | _ => exact Sel.no
theorem Sel.aIndexU {t : TypeId} {x i : AV} : Sel (Ab.aIndexU T t x i):=by
 unfold Ab.aIndexU
 cases x with
 | str b =>
  simp only
  unfold Ab.aIndexS
  cases look T t with
  | none => exact Sel.no
  | some ty =>
   simp only
   cases ty.st with
   | false => exact Sel.no
   | true => cases i <;> first | exact Sel.no | exact Sel.and (Sel.ex fun c => Sel.and (Sel.one _))
 | _ => exact Sel.aIndex
theorem Sel.aField {t : TypeId} {x : AV} {f : Nat} : Sel (Ab.aField T t x f):=by
 unfold Ab.aField
 cases look T t with
 | none => exact Sel.no
 | some i =>
  simp only
  cases i.fo with
  | false => exact Sel.no
  | true =>
   simp only
   cases nth i.lay f with
   | none => exact Sel.no
   | some p =>
    simp only
    cases nth i.fag f with
    | none => exact Sel.no
    | some ag => cases x <;> first | exact Sel.rd | exact Sel.no
theorem Sel.aMinMax {mx : Bool} {vs : List AV} : Sel (Ab.aMinMax mx vs):=by
 unfold Ab.aMinMax
 split
 ·cases mx <;> exact Sel.one _
 ·exact Sel.one _
 ·exact Sel.one _
 ·exact Sel.no
theorem Sel.aVal {lim : Option (Nat -> Bool)} {o : Oper} {s : St} : Sel (Ab.aVal T gl lim o s):=by
 obtain ⟨dst,op,type,pos,after,guard⟩:=o
 unfold Ab.aVal
 cases op with
 | move x => exact Sel.force _
 | assign x => exact Sel.force _
 | pick c x y => simp only; cases ev gl s c <;> first | exact Sel.no | exact Sel.pickA
 | build t ps =>
  simp only
  cases look T t with
  | none => exact Sel.no
  | some i =>
   simp only
   cases layOf i with
   | nil => exact Sel.no
   | cons p l =>
    simp only
    cases Bool.and i.fo (ones (cells i.zv)) with
    | false => exact Sel.no
    | true => exact (Sel.fillA _ _).map _
 | load t x => exact Sel.aLoad
 | nilCheck x => simp only; cases ev gl s x <;> first | exact Sel.no | exact Sel.one _
 | binOp op t x y u => exact Sel.bin
 | unOp op t x => exact Sel.un
 | convert t d x =>
  simp only
  cases (look T d).bind fun i => i.k with
  | none => exact Sel.aStrOf
  | some k => simp only; cases ev gl s x <;> first | exact Sel.no | exact Sel.one _
 | makeFunc fn first cap =>
  cases fn with
  | func f =>
   obtain ⟨first⟩:=first
   cases first with
   | nil => exact (Sel.forceL _).map _
   | cons _ _ => exact Sel.no
  | _ => exact Sel.no
 | slice t x lo hi mx => cases mx <;> first | exact Sel.aSlice | exact Sel.no
 | fieldAddr t x f => exact Sel.aFieldAddr
 | indexAddr t x y => exact Sel.aIndexAddr
 | index t x y => exact Sel.aIndexU
 | field t x f => exact Sel.aField
 | extract x i =>
  simp only
  cases ev gl s x with
  | tup vs =>
   simp only
   cases nth vs i with
   | none => exact Sel.no
   | some v => exact Sel.force v
  | _ => exact Sel.no
 | call cl =>
  obtain ⟨callee,args,ts⟩:=cl
  cases callee with
  | builtin b =>
   simp only
   split
   ·rename_i x t _ _
    cases (look T t).bind fun i => i.sl with
    | none => exact Sel.no
    | some _ => exact Sel.lenOf.map _
   ·exact Sel.aMinMax
   ·exact Sel.aMinMax
   ·exact Sel.no
  | _ => exact Sel.no
 | _ => exact Sel.no
def HpEq (b b' : Option Blk) : Prop:=b' = b ∨ ∃ sz rows l l',b = some (.arr sz rows l)∧b' = some (.arr sz rows l')
theorem HpEq.symm {b b' : Option Blk} (h : HpEq b b') : HpEq b' b:=by
 rcases h with h | ⟨sz,rows,l,l',h1,h2⟩
 ·exact .inl h.symm
 ·exact .inr ⟨sz,rows,l',l,h2,h1⟩
theorem HpEq.frz (b : Option Blk) : HpEq b (frzB b):=by
 cases b with
 | none => exact .inl rfl
 | some b =>
  cases b with
  | res => first | exact hK.elim | (rw [hb] at hK; exact hK.elim) | exact h.elim | (rw [hb] at h; exact h.elim) | (rw [hb] at hK2; exact hK2.elim) | (rw [hb] at hK; simp only at hK; exact hK.elim) | exact Sel.no | exact Gives.none | exact Give2.none | exact toDB_ok hp (.ms k off len) | (have:=Sel.toD (hp:=hp) (.ms k off len); exact this) | exact .inl rfl | (cases hK; done) | (cases h; done)
  | mp _ => first | exact hK.elim | (rw [hb] at hK; exact hK.elim) | exact h.elim | (rw [hb] at h; exact h.elim) | (rw [hb] at hK2; exact hK2.elim) | (rw [hb] at hK; simp only at hK; exact hK.elim) | exact Sel.no | exact Gives.none | exact Give2.none | exact toDB_ok hp (.ms k off len) | (have:=Sel.toD (hp:=hp) (.ms k off len); exact this) | exact .inl rfl | (cases hK; done) | (cases h; done)
  | box cs => exact .inl rfl
  | own _ _ => exact .inl rfl
  | arr sz rows lv => exact .inr ⟨sz,rows,lv,false,rfl,rfl⟩
theorem evs_eq {s s' : St} : ∀ (xs : List Operand),(∀ x ∈ xs,ev gl s' x = ev gl s x) -> evs gl s' xs = evs gl s xs
 | [],_ => rfl
 | x :: xs,h => by
   unfold evs
   rw [h x (by simp),evs_eq xs fun y hy => h y (by simp [hy])]
theorem evParts_eq {s s' : St} : ∀ (xs : List (Nat × Operand)),(∀ x ∈ xs,ev gl s' x.2 = ev gl s x.2) -> evParts gl s' xs = evParts gl s xs
 | [],_ => rfl
 | (i,x) :: xs,h => by
   unfold evParts
   rw [h (i,x) (by simp),evParts_eq xs fun y hy => h y (by simp [hy])]
theorem aLoad_local {p : Nat -> Bool} {t : TypeId} {a : AV} {s s' : St} {K : AV -> Prop} (hh : ∀ k,p k = true -> HpEq (s.hp k) (s'.hp k)) (h : aLoad T (some p) t a s K) : aLoad T (some p) t a s' K:=by
 unfold aLoad at h ⊢
 cases ht : look T t with
 | none => rw [ht] at h; exact h.elim
 | some i =>
  rw [ht] at h
  cases a with
  | bp k o =>
   obtain ⟨hk,h⟩:=h
   refine ⟨hk,?_⟩
   rcases hh k hk with e | ⟨sz,rows,lv,lv',e1,e2⟩
   ·rw [e]; exact h
   ·rw [e1] at h; exact h.elim
  | ap k r o =>
   obtain ⟨hk,h⟩:=h
   refine ⟨hk,?_⟩
   rcases hh k hk with e | ⟨sz,rows,lv,lv',e1,e2⟩
   ·rw [e]; exact h
   ·rw [e1] at h; rw [e2]; exact h
  | er row o => exact h
  | _ => exact h.elim
theorem aIndexAddr_local {p : Nat -> Bool} {t : TypeId} {x i : AV} {s s' : St} {K : AV -> Prop} (hh : ∀ k,p k = true -> HpEq (s.hp k) (s'.hp k)) (h : aIndexAddr T (some p) t x i s K) : aIndexAddr T (some p) t x i s' K:=by
 unfold aIndexAddr at h ⊢
 cases ht : look T t with
 | none => rw [ht] at h; exact h.elim
 | some ty =>
  rw [ht] at h
  cases i with
  | int ik i =>
   cases x with
   | ms k off m =>
    simp only at h ⊢
    cases he : ty.sl.bind (look T) with
    | none => rw [he] at h; exact h.elim
    | some e =>
     rw [he] at h
     obtain ⟨hk,h⟩:=h
     refine ⟨hk,?_⟩
     rcases hh k hk with e | ⟨sz,rows,lv,lv',e1,e2⟩
     ·rw [e]; exact h
     ·rw [e1] at h; rw [e2]; exact h
   | _ => exact h
  | _ => exact h.elim
theorem aSlice_last {p : Nat -> Bool} {sz : Nat} {x : AV} {s s' : St} {K : AV -> Prop} (hh : ∀ k,p k = true -> HpEq (s.hp k) (s'.hp k)) (h' l : Nat) (hl : match (generalizing:=false) x with
    | .sl rows => RowsOk sz rows∧K (.sl ((rows.take h').drop l))
    | .ms k off _ => Ab.inLim (some p) k (match s.hp k with
     | some (.arr sz' _ _) => match Nat.beq sz'.2 sz with
      | true => K (.ms k (off + l) (h' - l))
      | false => False
     | some (.own _ _) => match Nat.beq 1 sz with
      | true => K (.ms k (off + l) (h' - l))
      | false => False
     | _ => False)
    | .nil => K .nil
    | _ => False) : match (generalizing:=false) x with
    | .sl rows => RowsOk sz rows∧K (.sl ((rows.take h').drop l))
    | .ms k off _ => Ab.inLim (some p) k (match s'.hp k with
     | some (.arr sz' _ _) => match Nat.beq sz'.2 sz with
      | true => K (.ms k (off + l) (h' - l))
      | false => False
     | some (.own _ _) => match Nat.beq 1 sz with
      | true => K (.ms k (off + l) (h' - l))
      | false => False
     | _ => False)
    | .nil => K .nil
    | _ => False:=by
 cases x with
 | ms k off m =>
  obtain ⟨hk,hl⟩:=hl
  refine ⟨hk,?_⟩
  rcases hh k hk with e | ⟨sz,rows,lv,lv',e1,e2⟩
  ·rw [e]; exact hl
  ·rw [e1] at hl; rw [e2]; exact hl
 | _ => exact hl
theorem aSliceArr_local {p : Nat -> Bool} {t : TypeId} {x : AV} {s s' : St} {K : AV -> Prop} (hh : ∀ k,p k = true -> HpEq (s.hp k) (s'.hp k)) (h : aSliceArr T (some p) t x s K) : aSliceArr T (some p) t x s' K:=by
 unfold aSliceArr at h ⊢
 cases he : (look T t).bind fun i => i.arr with
 | none => rw [he] at h; exact h.elim
 | some q =>
  rw [he] at h
  obtain ⟨n,z⟩:=q
  match z,h with
  | 1,h =>
   cases x with
   | bp k o =>
    cases o with
    | zero =>
     obtain ⟨hk,h⟩:=h
     refine ⟨hk,?_⟩
     rcases hh k hk with e | ⟨sz,rows,lv,lv',e1,e2⟩
     ·rw [e]; exact h
     ·rw [e1] at h; exact h.elim
    | succ o => exact h.elim
   | _ => exact h.elim
theorem aSlice_local {p : Nat -> Bool} {t : TypeId} {x : AV} {lo hi : Option AV} {s s' : St} {K : AV -> Prop} (hh : ∀ k,p k = true -> HpEq (s.hp k) (s'.hp k)) (h : aSlice T (some p) t x lo hi s K) : aSlice T (some p) t x lo hi s' K:=by
 unfold aSlice at h ⊢
 cases he : ((look T t).bind fun i => i.sl).bind (look T) with
 | none =>
  rw [he] at h
  cases lo <;> cases hi <;> first | exact h.elim | exact aSliceArr_local hh h
 | some e =>
  rw [he] at h
  refine Sel.mono Sel.lenOf (fun m hm => ?_) h
  cases hi with
  | none =>
   cases lo with
   | none => exact aSlice_last hh _ _ hm
   | some v => cases v <;> first | exact hm.elim | exact ⟨hm.1,hm.2.1,aSlice_last hh _ _ hm.2.2⟩
  | some u =>
   cases u <;> first | exact hm.elim | skip
   refine ⟨hm.1,hm.2.1,?_⟩
   have hm:=hm.2.2
   cases lo with
   | none => exact aSlice_last hh _ _ hm
   | some v => cases v <;> first | exact hm.elim | exact ⟨hm.1,hm.2.1,aSlice_last hh _ _ hm.2.2⟩
theorem aVal_local {p : Nat -> Bool} {o : Oper} {s s' : St} {K : AV -> Prop} (hx : ∀ x ∈ o.op.operands.toList,ev gl s' x = ev gl s x) (hh : ∀ k,p k = true -> HpEq (s.hp k) (s'.hp k)) (h : aVal T gl (some p) o s K) : aVal T gl (some p) o s' K:=by
 obtain ⟨dst,op,type,pos,after,guard⟩:=o
 simp only at hx
 cases op with
 | move x => unfold aVal at h ⊢; simp only at h ⊢; rw [hx x (by simp [Op.operands])]; exact h
 | assign x => unfold aVal at h ⊢; simp only at h ⊢; rw [hx x (by simp [Op.operands])]; exact h
 | pick c x y =>
  unfold aVal at h ⊢; simp only at h ⊢
  rw [hx c (by simp [Op.operands]),hx x (by simp [Op.operands]),hx y (by simp [Op.operands])]; exact h
 | build t ps =>
  unfold aVal at h ⊢; simp only at h ⊢
  rw [evParts_eq ps.toList fun p hp => hx p.2 (by simp [Op.operands]; exact ⟨p.1,by simpa using hp⟩)]; exact h
 | load t x =>
  unfold aVal at h ⊢; simp only at h ⊢
  rw [hx x (by simp [Op.operands])]; exact aLoad_local hh h
 | nilCheck x => unfold aVal at h ⊢; simp only at h ⊢; rw [hx x (by simp [Op.operands])]; exact h
 | binOp op t x y u => unfold aVal at h ⊢; simp only at h ⊢; rw [hx x (by simp [Op.operands]),hx y (by simp [Op.operands])]; exact h
 | unOp op t x => unfold aVal at h ⊢; simp only at h ⊢; rw [hx x (by simp [Op.operands])]; exact h
 | convert t d x => unfold aVal at h ⊢; simp only at h ⊢; rw [hx x (by simp [Op.operands])]; exact h
 | makeFunc fn first cap =>
  cases fn with
  | func f =>
   obtain ⟨first⟩:=first
   cases first with
   | nil =>
    unfold aVal at h ⊢; simp only at h ⊢
    rw [evs_eq cap.toList fun x hx' => hx x (by simp [Op.operands]; simpa using hx')]; exact h
   | cons _ _ => exact h.elim
  | _ => exact h.elim
 | slice t x lo hi mx =>
  cases mx with
  | none =>
   unfold aVal at h ⊢; simp only at h ⊢
   have e1 : lo.map (ev gl s') = lo.map (ev gl s):=by
    cases lo with
    | none => rfl
    | some y => simp only [Option.map_some]; rw [hx y (by simp [Op.operands])]
   have e2 : hi.map (ev gl s') = hi.map (ev gl s):=by
    cases hi with
    | none => rfl
    | some y => simp only [Option.map_some]; rw [hx y (by simp [Op.operands])]
   rw [hx x (by simp [Op.operands]),e1,e2]; exact aSlice_local hh h
  | some _ => exact h.elim
 | fieldAddr t x f => unfold aVal at h ⊢; simp only at h ⊢; rw [hx x (by simp [Op.operands])]; exact h
 | indexAddr t x y =>
  unfold aVal at h ⊢; simp only at h ⊢
  rw [hx x (by simp [Op.operands]),hx y (by simp [Op.operands])]; exact aIndexAddr_local hh h
 | index t x y => unfold aVal at h ⊢; simp only at h ⊢; rw [hx x (by simp [Op.operands]),hx y (by simp [Op.operands])]; exact h
 | field t x f => unfold aVal at h ⊢; simp only at h ⊢; rw [hx x (by simp [Op.operands])]; exact h
 | extract x i => unfold aVal at h ⊢; simp only at h ⊢; rw [hx x (by simp [Op.operands])]; exact h
 | call cl =>
  obtain ⟨callee,args,ts⟩:=cl
  cases callee with
  | builtin b =>
   unfold aVal at h ⊢; simp only at h ⊢
   rw [evs_eq args.toList fun x hx' => hx x (by simp [Op.operands,Call.operands]; simpa using hx')]; exact h
  | _ => exact h.elim
 | _ => exact h.elim
theorem aLoad_hp {lim : Option (Nat -> Bool)} {t : TypeId} {a : AV} {s s' : St} {K : AV -> Prop} (e : s'.hp = s.hp) : aLoad T lim t a s' K = aLoad T lim t a s K:=by unfold aLoad; rw [e]
theorem aIndexAddr_hp {lim : Option (Nat -> Bool)} {t : TypeId} {x i : AV} {s s' : St} {K : AV -> Prop} (e : s'.hp = s.hp) : aIndexAddr T lim t x i s' K = aIndexAddr T lim t x i s K:=by unfold aIndexAddr; rw [e]
theorem aSlice_hp {lim : Option (Nat -> Bool)} {t : TypeId} {x : AV} {lo hi : Option AV} {s s' : St} {K : AV -> Prop} (e : s'.hp = s.hp) : aSlice T lim t x lo hi s' K = aSlice T lim t x lo hi s K:=by unfold aSlice aSliceArr; rw [e]
theorem aVal_same {lim : Option (Nat -> Bool)} {o : Oper} {s s' : St} {K : AV -> Prop} (hx : ∀ x ∈ o.op.operands.toList,ev gl s' x = ev gl s x) (hh : s'.hp = s.hp) (h : aVal T gl lim o s K) : aVal T gl lim o s' K:=by
 obtain ⟨dst,op,type,pos,after,guard⟩:=o
 simp only at hx
 cases op with
 | move x => unfold aVal at h ⊢; simp only at h ⊢; rw [hx x (by simp [Op.operands])]; exact h
 | assign x => unfold aVal at h ⊢; simp only at h ⊢; rw [hx x (by simp [Op.operands])]; exact h
 | pick c x y =>
  unfold aVal at h ⊢; simp only at h ⊢
  rw [hx c (by simp [Op.operands]),hx x (by simp [Op.operands]),hx y (by simp [Op.operands])]; exact h
 | build t ps =>
  unfold aVal at h ⊢; simp only at h ⊢
  rw [evParts_eq ps.toList fun p hp => hx p.2 (by simp [Op.operands]; exact ⟨p.1,by simpa using hp⟩)]; exact h
 | load t x =>
  unfold aVal at h ⊢; simp only at h ⊢
  rw [hx x (by simp [Op.operands])]; rw [aLoad_hp hh]; exact h
 | nilCheck x => unfold aVal at h ⊢; simp only at h ⊢; rw [hx x (by simp [Op.operands])]; exact h
 | binOp op t x y u => unfold aVal at h ⊢; simp only at h ⊢; rw [hx x (by simp [Op.operands]),hx y (by simp [Op.operands])]; exact h
 | unOp op t x => unfold aVal at h ⊢; simp only at h ⊢; rw [hx x (by simp [Op.operands])]; exact h
 | convert t d x => unfold aVal at h ⊢; simp only at h ⊢; rw [hx x (by simp [Op.operands])]; exact h
 | makeFunc fn first cap =>
  cases fn with
  | func f =>
   obtain ⟨first⟩:=first
   cases first with
   | nil =>
    unfold aVal at h ⊢; simp only at h ⊢
    rw [evs_eq cap.toList fun x hx' => hx x (by simp [Op.operands]; simpa using hx')]; exact h
   | cons _ _ => exact h.elim
  | _ => exact h.elim
 | slice t x lo hi mx =>
  cases mx with
  | none =>
   unfold aVal at h ⊢; simp only at h ⊢
   have e1 : lo.map (ev gl s') = lo.map (ev gl s):=by
    cases lo with
    | none => rfl
    | some y => simp only [Option.map_some]; rw [hx y (by simp [Op.operands])]
   have e2 : hi.map (ev gl s') = hi.map (ev gl s):=by
    cases hi with
    | none => rfl
    | some y => simp only [Option.map_some]; rw [hx y (by simp [Op.operands])]
   rw [hx x (by simp [Op.operands]),e1,e2]; rw [aSlice_hp hh]; exact h
  | some _ => exact h.elim
 | fieldAddr t x f => unfold aVal at h ⊢; simp only at h ⊢; rw [hx x (by simp [Op.operands])]; exact h
 | indexAddr t x y =>
  unfold aVal at h ⊢; simp only at h ⊢
  rw [hx x (by simp [Op.operands]),hx y (by simp [Op.operands])]; rw [aIndexAddr_hp hh]; exact h
 | index t x y => unfold aVal at h ⊢; simp only at h ⊢; rw [hx x (by simp [Op.operands]),hx y (by simp [Op.operands])]; exact h
 | field t x f => unfold aVal at h ⊢; simp only at h ⊢; rw [hx x (by simp [Op.operands])]; exact h
 | extract x i => unfold aVal at h ⊢; simp only at h ⊢; rw [hx x (by simp [Op.operands])]; exact h
 | call cl =>
  obtain ⟨callee,args,ts⟩:=cl
  cases callee with
  | builtin b =>
   unfold aVal at h ⊢; simp only at h ⊢
   rw [evs_eq args.toList fun x hx' => hx x (by simp [Op.operands,Call.operands]; simpa using hx')]; exact h
  | _ => exact h.elim
 | _ => exact h.elim
def stepA (T : List (Nat × TyI)) (gl : List (Nat × AV)) (HD H : Tg -> List AV -> St -> (AV -> St -> Prop) -> Prop) (fl : Oper -> Fl) (p : Nat -> Bool) (ops : Array Oper) (o : Oper) (s : St) (K : St -> Prop) : Prop :=
 match (fl o).ky with
 | some k => aRes T k o s K
 | none =>
 match (fl o).fz with
 | true => (match guardOf ops o with | none => aFz T gl o s K | some _ => False)
 | false =>
 match guardOf ops o with
 | none => young gl (fl o).chk p o.op s (aOpS T gl (fl o).hs (fl o).old (fl o).lo p (bif (fl o).hs then H else HD) H (bif (fl o).lim then some p else none) o s K)
 | some (some d,want) => match s.tm d with
  | .bool b => (b = want -> young gl (fl o).chk p o.op s (aOpS T gl (fl o).hs (fl o).old (fl o).lo p (bif (fl o).hs then H else HD) H (bif (fl o).lim then some p else none) o (put (some d) (.bool want) s) K)) ∧
    (b = !want -> K (put o.dst (.tup []) (put (some d) (.bool !want) s)))
  | .tup [] => K (put o.dst (.tup []) s)
  | _ => False
 | some (none,_) => False
theorem aOps_cons {HD : Tg -> List AV -> St -> (AV -> St -> Prop) -> Prop} {fl : Oper -> Fl} {p : Nat -> Bool} {ops : Array Oper} {o : Oper} {rest : List Oper} {s : St} {K : St -> Prop} :
  aOps T gl HD H fl p ops (o :: rest) s K = stepA T gl HD H fl p ops o s fun s' => aOps T gl HD H fl p ops rest s' K:=rfl
theorem put_same {s : St} {d : Nat} {v : AV} (h : s.tm d = v) : put (some d) v s = s:=by
 obtain ⟨tm,hp,nx⟩:=s
 simp only [put,St.mk.injEq,and_self,and_true]
 funext k
 by_cases e : k = d
 ·subst e; rw [show Nat.beq k k = true from Nat.beq_refl k]; exact h.symm
 ·rw [beq_ne e]; rfl
def HMakes (H : Tg -> List AV -> St -> (AV -> St -> Prop) -> Prop) : Prop :=
 ∀ f args s K,H f args s K -> ∃ r hp1,K r ⟨s.tm,hp1,s.nx⟩∧(∀ k,HpEq (s.hp k) (hp1 k))∧(∀ tm' K',K' r ⟨tm',hp1,s.nx⟩ -> H f args ⟨tm',s.hp,s.nx⟩ K') ∧
  (ptrs args = false -> ∀ k b,k ∉ keysAs args -> ∀ tm' K',K' r ⟨tm',upd k b hp1,s.nx⟩ -> H f args ⟨tm',upd k b s.hp,s.nx⟩ K')
theorem aVal_lim {lim lim' : Option (Nat -> Bool)} {o : Oper} {s : St} (h : pureOp o.op = true) : aVal T gl lim o s = aVal T gl lim' o s:=by
 obtain ⟨dst,op,type,pos,after,guard⟩:=o
 cases op with
 | call cl =>
  obtain ⟨callee,args,ts⟩:=cl
  cases callee with
  | builtin b => rfl
  | _ => cases h
 | makeFunc fn first cap =>
  cases fn with
  | func f => obtain ⟨first⟩:=first; cases first <;> rfl
  | _ => rfl
 | slice t x lo hi mx => cases h
 | _ => first | rfl | (cases h; done)
theorem quiet_pick {lim : Option (Nat -> Bool)} {o : Oper} {s : St} {K : St -> Prop} (hq : quietOp o.op = true) (h : aOp T gl H lim o s K) :
  ∃ v,K (put o.dst v s) ∧
   (∀ s',(∀ x ∈ o.op.operands.toList,ev gl s' x = ev gl s x) -> s'.hp = s.hp -> ∀ K' : St -> Prop,K' (put o.dst v s') -> aOp T gl H lim o s' K') ∧
   (pureOp o.op = true -> ∀ s',(∀ x ∈ o.op.operands.toList,ev gl s' x = ev gl s x) -> ∀ K' : St -> Prop,K' (put o.dst v s') -> aOp T gl H lim o s' K') ∧
   (∀ p,lim = some p -> ∀ s',(∀ x ∈ o.op.operands.toList,ev gl s' x = ev gl s x) -> (∀ k,p k = true -> HpEq (s.hp k) (s'.hp k)) -> ∀ K' : St -> Prop,K' (put o.dst v s') -> aOp T gl H lim o s' K'):=by
 rw [aOp_quiet hq] at h
 obtain ⟨v,h1,h2⟩:=Sel.aVal _ h
 refine ⟨v,h1,fun s' he hh K' hK => ?_,fun hp s' he K' hK => ?_,fun p hl s' he hh K' hK => ?_⟩
 ·rw [aOp_quiet hq]
  have:=h2 (fun v => K' (put o.dst v s')) hK
  cases lim with
  | none => exact aVal_same he hh this
  | some p => exact aVal_same he hh this
 ·rw [aOp_quiet hq,aVal_lim (lim':=some fun _ => false) hp]
  have:=h2 (fun v => K' (put o.dst v s')) hK
  rw [aVal_lim (lim':=some fun _ => false) hp] at this
  exact aVal_local he (fun k hk => by cases hk) this
 ·subst hl
  rw [aOp_quiet hq]
  exact aVal_local he hh (h2 (fun v => K' (put o.dst v s')) hK)
theorem Sel.toD {hp : Nat -> Option Blk} (v : AV) : Sel (Ab.toD hp v):=by
 unfold Ab.toD
 cases v with
 | ms k off len =>
  simp only
  cases hp k with
  | none => exact Sel.no
  | some b => cases b with
   | res => first | exact hK.elim | (rw [hb] at hK; exact hK.elim) | exact h.elim | (rw [hb] at h; exact h.elim) | (rw [hb] at hK2; exact hK2.elim) | (rw [hb] at hK; simp only at hK; exact hK.elim) | exact Sel.no | exact Gives.none | exact Give2.none | exact toDB_ok hp (.ms k off len) | (have:=Sel.toD (hp:=hp) (.ms k off len); exact this) | exact .inl rfl | (cases hK; done) | (cases h; done)
   | mp _ => first | exact hK.elim | (rw [hb] at hK; exact hK.elim) | exact h.elim | (rw [hb] at h; exact h.elim) | (rw [hb] at hK2; exact hK2.elim) | (rw [hb] at hK; simp only at hK; exact hK.elim) | exact Sel.no | exact Gives.none | exact Give2.none | exact toDB_ok hp (.ms k off len) | (have:=Sel.toD (hp:=hp) (.ms k off len); exact this) | exact .inl rfl | (cases hK; done) | (cases h; done)
   | box _ => exact Sel.no
   | own _ _ => exact Sel.no
   | arr sz rows lv => exact (Sel.one _).and
 | _ => first | exact Sel.one _ | exact Sel.no
theorem Sel.toDs {hp : Nat -> Option Blk} : ∀ (vs : List AV),Sel (Ab.toDs hp vs)
 | [] => Sel.one _
 | v :: vs => (Sel.toD v).bind fun d => (Sel.toDs vs).map fun ds => d :: ds
theorem Sel.toDA {hp : Nat -> Option Blk} (v : AV) : Sel (Ab.toDA hp v):=by
 cases v with
 | agg cs => exact (Sel.toDs cs).map _
 | tup _ => exact Sel.no
 | int k n => exact Sel.toD (hp:=hp) (.int k n)
 | bool b => exact Sel.toD (hp:=hp) (.bool b)
 | str b => exact Sel.toD (hp:=hp) (.str b)
 | sl b => exact Sel.toD (hp:=hp) (.sl b)
 | nil => exact Sel.toD (hp:=hp) .nil
 | bp k o => exact Sel.toD (hp:=hp) (.bp k o)
 | ap k r o => exact Sel.toD (hp:=hp) (.ap k r o)
 | er k o => exact Sel.toD (hp:=hp) (.er k o)
 | ms k o n => exact Sel.toD (hp:=hp) (.ms k o n)
 | fn f c => exact Sel.toD (hp:=hp) (.fn f c)
 | yl l => exact Sel.toD (hp:=hp) (.yl l)
 | lit l => exact Sel.toD (hp:=hp) (.lit l)
 | mv l => exact Sel.toD (hp:=hp) (.mv l)
 | undef => exact Sel.toD (hp:=hp) .undef
theorem Sel.toDAs {hp : Nat -> Option Blk} : ∀ (vs : List AV),Sel (Ab.toDAs hp vs)
 | [] => Sel.one _
 | v :: vs => (Sel.toDA v).bind fun d => (Sel.toDAs vs).map fun ds => d :: ds
theorem Sel.toP {hp : Nat -> Option Blk} (v : AV) : Sel (Ab.toP hp v):=by
 cases v with
 | ms k off len =>
  show Sel (fun K => Ab.toP hp (.ms k off len) K)
  simp only [Ab.toP]
  cases hb : hp k with
  | none => have:=Sel.toD (hp:=hp) (.ms k off len); exact this
  | some b =>
   cases b with
   | res => first | exact hK.elim | (rw [hb] at hK; exact hK.elim) | exact h.elim | (rw [hb] at h; exact h.elim) | (rw [hb] at hK2; exact hK2.elim) | (rw [hb] at hK; simp only at hK; exact hK.elim) | exact Sel.no | exact Gives.none | exact Give2.none | exact toDB_ok hp (.ms k off len) | (have:=Sel.toD (hp:=hp) (.ms k off len); exact this) | exact .inl rfl | (cases hK; done) | (cases h; done)
   | mp _ => first | exact hK.elim | (rw [hb] at hK; exact hK.elim) | exact h.elim | (rw [hb] at h; exact h.elim) | (rw [hb] at hK2; exact hK2.elim) | (rw [hb] at hK; simp only at hK; exact hK.elim) | exact Sel.no | exact Gives.none | exact Give2.none | exact toDB_ok hp (.ms k off len) | (have:=Sel.toD (hp:=hp) (.ms k off len); exact this) | exact .inl rfl | (cases hK; done) | (cases h; done)
   | box cs => exact ((Sel.toDs _).map _).and
   | own _ _ => have:=Sel.toD (hp:=hp) (.ms k off len); exact this
   | arr _ _ _ => have:=Sel.toD (hp:=hp) (.ms k off len); exact this
 | agg cs => exact Sel.toDA (hp:=hp) (.agg cs)
 | tup cs => exact Sel.toDA (hp:=hp) (.tup cs)
 | int k n => exact Sel.toDA (hp:=hp) (.int k n)
 | bool b => exact Sel.toDA (hp:=hp) (.bool b)
 | str b => exact Sel.toDA (hp:=hp) (.str b)
 | sl b => exact Sel.toDA (hp:=hp) (.sl b)
 | nil => exact Sel.toDA (hp:=hp) .nil
 | bp k o => exact Sel.toDA (hp:=hp) (.bp k o)
 | ap k r o => exact Sel.toDA (hp:=hp) (.ap k r o)
 | er k o => exact Sel.toDA (hp:=hp) (.er k o)
 | fn f c => exact Sel.toDA (hp:=hp) (.fn f c)
 | yl l => exact Sel.toDA (hp:=hp) (.yl l)
 | lit l => exact Sel.toDA (hp:=hp) (.lit l)
 | mv l => exact Sel.toDA (hp:=hp) (.mv l)
 | undef => exact Sel.toDA (hp:=hp) .undef
theorem Sel.toPs {hp : Nat -> Option Blk} : ∀ (vs : List AV),Sel (Ab.toPs hp vs)
 | [] => Sel.one _
 | v :: vs => (Sel.toP v).bind fun d => (Sel.toPs vs).map fun ds => d :: ds
theorem Sel.fillO : ∀ (ps : List (Nat × AV)) (cs : List AV),Sel (Ab.fillO ps cs)
 | [],cs => Sel.forceL cs
 | (i,v) :: ps,cs => by
   show Sel (fun K => Ab.force v fun v => match Bool.and (Ab.one v) (Nat.ble (i + 1) (lenL cs)) with
    | true => Ab.fillO ps (cs.set i v) K
    | false => False)
   refine (Sel.force v).bind (ψ:=fun v K => match Bool.and (Ab.one v) (Nat.ble (i + 1) (lenL cs)) with
    | true => Ab.fillO ps (cs.set i v) K
    | false => False) fun v => ?_
   cases Bool.and (Ab.one v) (Nat.ble (i + 1) (lenL cs)) with
   | true => exact Sel.fillO ps _
   | false => exact Sel.no
theorem Sel.fillR {hp : Nat -> Option Blk} {size : Nat} : ∀ (ps : List (Nat × AV)) (rows : List (List AV)),Sel (Ab.fillR hp size ps rows)
 | [],rows => Sel.one rows
 | (i,v) :: ps,rows => by
   show Sel (fun K => Ab.toDs hp (cells v) fun cs => match Bool.and (Nat.beq (lenL cs) size) (Nat.ble (i + 1) rows.length) with
    | true => Ab.fillR hp size ps (rows.set i cs) K
    | false => False)
   refine (Sel.toDs _).bind (ψ:=fun cs K => match Bool.and (Nat.beq (lenL cs) size) (Nat.ble (i + 1) rows.length) with
    | true => Ab.fillR hp size ps (rows.set i cs) K
    | false => False) fun cs => ?_
   cases Bool.and (Nat.beq (lenL cs) size) (Nat.ble (i + 1) rows.length) with
   | true => exact Sel.fillR ps _
   | false => exact Sel.no
def Turns (T : List (Nat × TyI)) (gl : List (Nat × AV)) (H : Tg -> List AV -> St -> (AV -> St -> Prop) -> Prop) (lim : Option (Nat -> Bool)) (o : Oper) (s : St) (K : St -> Prop) : Prop :=
 ∃ v hp1 nx1,K (put o.dst v ⟨s.tm,hp1,nx1⟩)∧(∀ k,k ∉ touch gl o.op s -> HpEq (s.hp k) (hp1 k)) ∧
  ∀ s' : St,(∀ x ∈ o.op.operands.toList,ev gl s' x = ev gl s x) -> s'.hp = s.hp -> s'.nx = s.nx -> ∀ K' : St -> Prop,K' (put o.dst v ⟨s'.tm,hp1,nx1⟩) -> aOp T gl H lim o s' K'
theorem upd_eq {hp : Nat -> Option Blk} {n : Nat} {b : Option Blk} {k : Nat} (h : k ∉ [n]) : HpEq (hp k) (upd n b hp k):=by
 unfold upd
 rw [beq_ne (fun e => h (by simp [e]))]
 exact .inl rfl
theorem frz_eq' {hp : Nat -> Option Blk} (ks : List Nat) (k : Nat) : HpEq (hp k) (Ab.frz ks hp k):=by
 unfold Ab.frz
 cases ks with
 | nil => exact .inl rfl
 | cons j ks =>
  cases h : memN k (j :: ks) with
  | true => simp only [h]; exact HpEq.frz _
  | false => simp only [h]; exact .inl rfl
theorem HpEq.trans {a b c : Option Blk} (h : HpEq a b) (g : HpEq b c) : HpEq a c:=by
 rcases h with h | ⟨sz,rows,l,l',h1,h2⟩
 ·rw [<- h]; exact g
 ·rcases g with g | ⟨sz',rows',m,m',g1,g2⟩
  ·rw [g]; exact .inr ⟨sz,rows,l,l',h1,h2⟩
  ·rw [h2] at g1
   cases g1
   exact .inr ⟨sz,rows,l,m',h1,g2⟩
theorem aStore_pick {t : TypeId} {a v : AV} {s : St} {K : St -> Prop} (h : aStore T t a v s K) :
  ∃ s1,K s1∧s1.tm = s.tm∧s1.nx = s.nx∧(∀ k,k ∉ keyOf a -> HpEq (s.hp k) (s1.hp k))∧∀ s' : St,s'.hp = s.hp -> s'.nx = s.nx -> ∀ K' : St -> Prop,K' ⟨s'.tm,s1.hp,s1.nx⟩ -> aStore T t a v s' K':=by
 unfold aStore at h
 cases hl : look T t with
 | none => rw [hl] at h; exact h.elim
 | some i =>
  rw [hl] at h
  simp only at h
  cases hq : Nat.beq i.sz (lenL (cells v)) with
  | false => rw [hq] at h; exact h.elim
  | true =>
   rw [hq] at h
   simp only at h
   have keyne : ∀ {k j : Nat} {b : Option Blk} {hp : Nat -> Option Blk},j ∉ [k] -> upd k b hp j = hp j:=fun hj => upd_ne (fun e => hj (by simp [e])) _ _
   cases a with
   | bp k o =>
    simp only at h
    cases hb : s.hp k with
    | none => rw [hb] at h; exact h.elim
    | some b =>
     rw [hb] at h
     cases b with
     | box cs =>
      simp only at h
      cases hc : and (ones (cells v)) (Nat.ble (o + lenL (cells v)) (lenL cs)) with
      | false => rw [hc] at h; exact h.elim
      | true =>
       rw [hc] at h
       simp only [forceL_eq] at h
       refine ⟨_,h,rfl,rfl,fun j hj => .inl (keyne hj),fun s' e1 e2 K' hK => ?_⟩
       unfold aStore
       simp only [hl,hq,e1,hb,hc,forceL_eq]
       unfold setB; rw [e1,e2]; exact hK
     | own et cs =>
      simp only at h
      cases hc : and (ones (cells v)) (Nat.ble (o + lenL (cells v)) (lenL cs)) with
      | false => rw [hc] at h; exact h.elim
      | true =>
       rw [hc] at h
       simp only [forceL_eq] at h
       refine ⟨_,h,rfl,rfl,fun j hj => .inl (keyne hj),fun s' e1 e2 K' hK => ?_⟩
       unfold aStore
       simp only [hl,hq,e1,hb,hc,forceL_eq]
       unfold setB; rw [e1,e2]; exact hK
     | _ => exact h.elim
   | ap k r o =>
    simp only at h
    cases hb : s.hp k with
    | none => rw [hb] at h; exact h.elim
    | some b =>
     rw [hb] at h
     cases b with
     | arr sz rows lv =>
      cases lv with
      | false => exact h.elim
      | true =>
       obtain ⟨row,hr,h⟩:=h
       obtain ⟨cs,h,hds⟩:=Sel.toDs _ _ h
       cases hc : Nat.ble (o + lenL cs) (lenL row) with
       | false => rw [hc] at h; exact h.elim
       | true =>
        rw [hc] at h
        simp only [forceL_eq] at h
        refine ⟨_,h,rfl,rfl,fun j hj => ?_,fun s' e1 e2 K' hK => ?_⟩
        ·simp only [setB]
         rw [keyne hj]
         exact frz_eq' _ _
        ·unfold aStore
         simp only [hl,hq,e1,hb]
         refine ⟨row,hr,hds _ ?_⟩
         simp only [hc,forceL_eq]
         unfold setB; rw [e2]; exact hK
     | _ => exact h.elim
   | _ => exact h.elim
theorem Sel.rowsOf {hp : Nat -> Option Blk} {sz : Nat} {y : AV} : Sel (Ab.rowsOf hp sz y):=by
 unfold Ab.rowsOf
 cases y with
 | nil => exact Sel.one _
 | sl rows => exact (Sel.one _).and
 | ms k off n =>
  simp only
  cases hp k with
  | none => exact Sel.no
  | some b =>
   cases b with
   | arr sz' rows lv =>
    simp only
    cases Nat.beq sz sz'.2 with
    | false => exact Sel.no
    | true => exact (Sel.one _).and
   | _ => exact Sel.no
 | _ => exact Sel.no
theorem Sel.cellsOf {hp : Nat -> Option Blk} {y : AV} : Sel (Ab.cellsOf hp y):=by
 unfold Ab.cellsOf
 cases y with
 | nil => exact Sel.one _
 | sl rows => exact (Sel.one _).and
 | ms k off n =>
  simp only
  cases hp k with
  | none => exact Sel.no
  | some b =>
   cases b with
   | own et cs => exact (Sel.forceL _).and
   | arr sz rows lv =>
    simp only
    cases Nat.beq 1 sz.2 with
    | false => exact Sel.no
    | true => exact (Sel.one _).and
   | _ => exact Sel.no
 | _ => exact Sel.no
theorem aAppend_pick {t : TypeId} {x y : AV} {s : St} {K : AV -> St -> Prop} (h : aAppend T t x y s K) :
  ∃ v s1,K v s1∧s1.tm = s.tm∧(∀ k,k ∉ s.nx :: keyOf x -> HpEq (s.hp k) (s1.hp k))∧∀ s' : St,s'.hp = s.hp -> s'.nx = s.nx -> ∀ K' : AV -> St -> Prop,K' v ⟨s'.tm,s1.hp,s1.nx⟩ -> aAppend T t x y s' K':=by
 have k1 : ∀ {k j n : Nat} {b : Option Blk} {hp : Nat -> Option Blk} {l : List Nat},j ∉ n :: l -> upd n b hp j = hp j:=fun hj => upd_ne (fun e => hj (by simp [e])) _ _
 have same : ∀ v,K v s -> (∀ s' : St,s'.hp = s.hp -> s'.nx = s.nx -> ∀ K' : AV -> St -> Prop,K' v s' -> aAppend T t x y s' K') ->
   ∃ v s1,K v s1∧s1.tm = s.tm∧(∀ k,k ∉ s.nx :: keyOf x -> HpEq (s.hp k) (s1.hp k))∧∀ s' : St,s'.hp = s.hp -> s'.nx = s.nx -> ∀ K' : AV -> St -> Prop,K' v ⟨s'.tm,s1.hp,s1.nx⟩ -> aAppend T t x y s' K':=by
  intro v h hs
  exact ⟨v,s,h,rfl,fun k _ => .inl rfl,fun s' e1 e2 K' hK => hs s' e1 e2 K' (by rw [<- e1,<- e2] at hK; exact hK)⟩
 have h0:=h
 unfold aAppend at h
 cases h1 : (look T t).bind fun i => i.sl with
 | none => rw [h1] at h; exact h.elim
 | some et =>
  rw [h1] at h
  simp only at h
  cases h2 : look T et with
  | none => rw [h2] at h; exact h.elim
  | some e =>
   rw [h2] at h
   simp only at h
   cases h3 : Nat.ble 1 e.sz with
   | false => rw [h3] at h; exact h.elim
   | true =>
    rw [h3] at h
    simp only at h
    cases h4 : e.sl with
    | some est =>
     rw [h4] at h
     simp only at h
     cases h5 : Nat.beq e.sz 1 with
     | false => rw [h5] at h; exact h.elim
     | true =>
      rw [h5] at h
      have open' : ∀ (s' : St) (K' : AV -> St -> Prop),aAppendO et e.by_ x y s' K' -> aAppend T t x y s' K':=fun s' K' hh => by
       unfold aAppend; simp only [h1,h2,h3,h4,h5]; exact hh
      have h : aAppendO et e.by_ x y s K:=h
      unfold aAppendO at h
      cases x with
      | nil =>
       have main : ∀ (h : Ab.cellsOf s.hp y fun cs => cs ≠ []∧cs.length * e.by_ <= 140737488355328∧cs.length <= maxLen∧K (.ms s.nx 0 cs.length) (alloc (.own et cs) s)),
         (∀ (s' : St) (K' : AV -> St -> Prop),(Ab.cellsOf s'.hp y fun cs => cs ≠ []∧cs.length * e.by_ <= 140737488355328∧cs.length <= maxLen∧K' (.ms s'.nx 0 cs.length) (alloc (.own et cs) s')) -> aAppendO et e.by_ .nil y s' K') ->
         ∃ v s1,K v s1∧s1.tm = s.tm∧(∀ k,k ∉ s.nx :: keyOf .nil -> HpEq (s.hp k) (s1.hp k))∧∀ s' : St,s'.hp = s.hp -> s'.nx = s.nx -> ∀ K' : AV -> St -> Prop,K' v ⟨s'.tm,s1.hp,s1.nx⟩ -> aAppend T t .nil y s' K':=by
        intro h hop
        obtain ⟨cs,⟨c1,c2,c3,h⟩,hc⟩:=Sel.cellsOf _ h
        refine ⟨_,_,h,rfl,fun k hk => .inl (k1 (k:=0) hk),fun s' e1 e2 K' hK => open' s' K' (hop s' K' ?_)⟩
        rw [e1,e2]
        refine hc _ ⟨c1,c2,c3,?_⟩
        unfold alloc; rw [e1,e2]; exact hK
       cases y with
       | nil => exact same _ h fun s' e1 e2 K' hK => open' s' K' hK
       | int _ _ => exact main h fun s' K' hh => hh
       | bool _ => exact main h fun s' K' hh => hh
       | str _ => exact main h fun s' K' hh => hh
       | sl _ => exact main h fun s' K' hh => hh
       | agg _ => exact main h fun s' K' hh => hh
       | tup _ => exact main h fun s' K' hh => hh
       | bp _ _ => exact main h fun s' K' hh => hh
       | ap _ _ _ => exact main h fun s' K' hh => hh
       | er _ _ => exact main h fun s' K' hh => hh
       | ms _ _ _ => exact main h fun s' K' hh => hh
       | fn _ _ => exact main h fun s' K' hh => hh
       | yl _ => exact main h fun s' K' hh => hh
       | mv _ => exact main h fun s' K' hh => hh
       | lit _ => exact main h fun s' K' hh => hh
       | undef => exact main h fun s' K' hh => hh
      | ms k off n =>
       cases off with
       | succ off => exact h.elim
       | zero =>
        simp only at h
        cases hb : s.hp k with
        | none => rw [hb] at h; exact h.elim
        | some b =>
         rw [hb] at h
         cases b with
         | own et' cs =>
          simp only at h
          cases hq : Nat.beq et' et with
          | false => rw [hq] at h; exact h.elim
          | true =>
           rw [hq] at h
           obtain ⟨hn,h⟩:=h
           obtain ⟨cs',⟨c2,c3,h⟩,hc⟩:=Sel.cellsOf _ h
           rw [forceL_eq] at h
           refine ⟨_,_,h,rfl,fun j hj => .inl ?_,fun s' e1 e2 K' hK => open' s' K' ?_⟩
           ·simp only [alloc,setB]
            rw [k1 (k:=0) hj,upd_ne (fun e => hj (by simp [keyOf,e]))]
           ·unfold aAppendO
            simp only [e1,hb,hq]
            refine ⟨hn,hc _ ⟨c2,c3,?_⟩⟩
            rw [forceL_eq]
            unfold alloc setB; rw [e1,e2]; exact hK
         | _ => exact h.elim
      | _ => exact h.elim
    | none =>
     rw [h4] at h
     simp only at h
     cases x with
     | nil =>
      cases y with
      | nil => exact same _ h fun s' e1 e2 K' hK => by unfold aAppend; simp only [h1,h2,h3,h4]; exact hK
      | sl rows =>
       obtain ⟨c1,c2,c3,h⟩:=h
       exact same _ h fun s' e1 e2 K' hK => by unfold aAppend; simp only [h1,h2,h3,h4]; exact ⟨c1,c2,c3,hK⟩
      | ms k off n =>
       obtain ⟨c1,c2,c3,h⟩:=h
       obtain ⟨rows,h,hr⟩:=Sel.rowsOf _ h
       refine ⟨_,_,h,rfl,fun k hk => .inl (k1 (k:=0) hk),fun s' e1 e2 K' hK => ?_⟩
       unfold aAppend; simp only [h1,h2,h3,h4]
       rw [e1,e2]
       refine ⟨c1,c2,c3,hr _ ?_⟩
       unfold alloc; rw [e1,e2]; exact hK
      | _ => exact h.elim
     | ms k off n =>
      cases off with
      | succ off => exact h.elim
      | zero =>
       simp only at h
       cases hb : s.hp k with
       | none => rw [hb] at h; exact h.elim
       | some b =>
        rw [hb] at h
        cases b with
        | arr sz rows lv =>
         cases lv with
         | false => exact h.elim
         | true =>
          simp only at h
          cases hq : and (Nat.beq sz.1 et) (Nat.beq sz.2 e.sz) with
          | false => rw [hq] at h; exact h.elim
          | true =>
           rw [hq] at h
           obtain ⟨hn,h⟩:=h
           obtain ⟨rows',⟨c2,c3,h⟩,hr⟩:=Sel.rowsOf _ h
           refine ⟨_,_,h,rfl,fun j hj => .inl ?_,fun s' e1 e2 K' hK => ?_⟩
           ·simp only [alloc,setB]
            rw [k1 (k:=0) hj,upd_ne (fun e => hj (by simp [keyOf,e]))]
           ·unfold aAppend; simp only [h1,h2,h3,h4,e1,hb,hq]
            refine ⟨hn,hr _ ⟨c2,c3,?_⟩⟩
            unfold alloc setB; rw [e1,e2]; exact hK
        | box cs =>
         cases cs with
         | cons _ _ => exact h.elim
         | nil =>
          cases y with
          | sl rows =>
           obtain ⟨c1,c2,c3,h⟩:=h
           exact same _ h fun s' e1 e2 K' hK => by unfold aAppend; simp only [h1,h2,h3,h4,e1,hb]; exact ⟨c1,c2,c3,hK⟩
          | _ => exact h.elim
        | _ => exact h.elim
     | _ => exact h.elim
theorem turns_pick {lim : Option (Nat -> Bool)} {o : Oper} {s : St} {K : St -> Prop} (hH : HMakes H) (hm : turnsOp o.op = true) (h : aOp T gl H lim o s K) : Turns T gl H lim o s K:=by
 obtain ⟨dst,op,type,pos,after,guard⟩:=o
 cases op with
 | alloc e =>
  unfold aOp at h
  simp only at h
  cases ht : look T e with
  | none => rw [ht] at h; exact h.elim
  | some i =>
   rw [ht] at h
   simp only at h
   cases ho : ones (cells i.zv) with
   | false => rw [ho] at h; exact h.elim
   | true =>
    rw [ho] at h
    refine ⟨_,_,_,h,fun k hk => upd_eq hk,fun s' he e1 e2 K' hK => ?_⟩
    unfold aOp
    simp only [ht,ho]
    unfold alloc
    rw [e1,e2]
    exact hK
 | box t x =>
  unfold aOp at h
  simp only [forceL_eq] at h
  cases ho : ones (cells (ev gl s x)) with
  | false => rw [ho] at h; exact h.elim
  | true =>
   rw [ho] at h
   refine ⟨_,_,_,h,fun k hk => upd_eq hk,fun s' he e1 e2 K' hK => ?_⟩
   unfold aOp
   simp only [forceL_eq]
   rw [he x (by simp [Op.operands]),ho]
   unfold alloc
   rw [e1,e2]
   exact hK
 | buildSlice t n ps =>
  unfold aOp at h
  simp only at h
  unfold aBuildSlice at h
  cases h1 : (look T t).bind fun i => i.sl with
  | none => rw [h1] at h; exact h.elim
  | some et =>
   rw [h1] at h
   simp only at h
   cases h2 : look T et with
   | none => rw [h2] at h; exact h.elim
   | some e =>
    rw [h2] at h
    simp only at h
    cases hs : e.sl with
    | some est =>
     rw [hs] at h
     simp only at h
     cases hz : e.zv with
     | nil =>
      rw [hz] at h
      simp only at h
      cases h3 : Nat.ble n 65536 with
      | false => rw [h3] at h; exact h.elim
      | true =>
       rw [h3] at h
       obtain ⟨cs,h,hr2⟩:=Sel.fillO _ _ _ h
       refine ⟨_,_,_,h,fun k hk => upd_eq hk,fun s' he e1 e2 K' hK => ?_⟩
       unfold aOp
       simp only
       rw [evParts_eq ps.toList fun p hp => he p.2 (by simp [Op.operands]; exact ⟨p.1,by simpa using hp⟩)]
       unfold aBuildSlice
       rw [h1]
       simp only
       rw [h2]
       simp only
       rw [hs]
       simp only
       rw [hz]
       simp only
       rw [h3]
       refine hr2 _ ?_
       unfold alloc
       rw [e1,e2]
       exact hK
     | _ => rw [hz] at h; exact h.elim
    | none =>
    rw [hs] at h
    simp only at h
    obtain ⟨row,h,hr⟩:=Sel.toDs _ _ h
    cases h3 : and (and (Nat.ble 1 e.sz) (Nat.beq (lenL row) e.sz)) (Nat.ble (n * e.sz) 65536) with
    | false => rw [h3] at h; exact h.elim
    | true =>
     rw [h3] at h
     obtain ⟨rows,h,hr2⟩:=Sel.fillR _ _ _ h
     refine ⟨_,_,_,h,fun k hk => (frz_eq' _ k).trans (upd_eq hk),fun s' he e1 e2 K' hK => ?_⟩
     unfold aOp
     simp only
     rw [evParts_eq ps.toList fun p hp => he p.2 (by simp [Op.operands]; exact ⟨p.1,by simpa using hp⟩)]
     unfold aBuildSlice
     rw [h1]
     simp only
     rw [h2]
     simp only
     rw [hs]
     simp only
     rw [e1]
     refine hr _ ?_
     rw [h3]
     refine hr2 _ ?_
     unfold alloc
     rw [e2]
     exact hK
 | makeSlice t x y =>
  unfold aOp at h
  simp only at h
  unfold aMakeSlice at h
  cases h1 : (look T t).bind fun i => i.sl with
  | none => rw [h1] at h; exact h.elim
  | some et =>
   rw [h1] at h
   simp only at h
   cases h2 : look T et with
   | none => rw [h2] at h; exact h.elim
   | some e =>
    rw [h2] at h
    simp only at h
    cases h4 : ev gl s x with
    | int k1 n =>
     rw [h4] at h
     simp only at h
     cases h5 : ev gl s y with
     | int k2 c =>
      rw [h5] at h
      simp only at h
      cases hs : e.sl with
      | some est =>
       rw [hs] at h
       simp only at h
       cases hz : e.zv with
       | nil =>
        rw [hz] at h
        obtain ⟨c1,c2,c3,c4,h⟩:=h
        refine ⟨_,_,_,h,fun k hk => upd_eq hk,fun s' he e1 e2 K' hK => ?_⟩
        unfold aOp
        simp only
        rw [he x (by simp [Op.operands]),he y (by simp [Op.operands]),h4,h5]
        unfold aMakeSlice
        rw [h1]
        simp only
        rw [h2]
        simp only
        rw [hs]
        simp only
        rw [hz]
        refine ⟨c1,c2,c3,c4,?_⟩
        unfold alloc
        rw [e1,e2]
        exact hK
       | _ => rw [hz] at h; exact h.elim
      | none =>
      rw [hs] at h
      simp only at h
      obtain ⟨row,h,hr⟩:=Sel.toDs _ _ h
      cases h3 : and (Nat.ble 1 e.sz) (Nat.beq (lenL row) e.sz) with
      | false => rw [h3] at h; exact h.elim
      | true =>
       rw [h3] at h
       obtain ⟨c1,c2,c3,c4,h⟩:=h
       refine ⟨_,_,_,h,fun k hk => upd_eq hk,fun s' he e1 e2 K' hK => ?_⟩
       unfold aOp
       simp only
       rw [he x (by simp [Op.operands]),he y (by simp [Op.operands]),h4,h5]
       unfold aMakeSlice
       rw [h1]
       simp only
       rw [h2]
       simp only
       rw [hs]
       simp only
       rw [e1]
       refine hr _ ?_
       rw [h3]
       refine ⟨c1,c2,c3,c4,?_⟩
       unfold alloc
       rw [e1,e2]
       exact hK
     | _ => rw [h5] at h; exact h.elim
    | _ => rw [h4] at h; exact h.elim
 | store t x y =>
  unfold aOp at h
  simp only [force_eq] at h
  obtain ⟨s1,h,e1,e2,e3,hs⟩:=aStore_pick h
  obtain ⟨tm1,hp1,nx1⟩:=s1
  simp only at e1 e2 e3 hs
  subst e1; subst e2
  refine ⟨.undef,hp1,s.nx,h,e3,fun s' he g1 g2 K' hK => ?_⟩
  unfold aOp
  simp only [force_eq]
  rw [he x (by simp [Op.operands]),he y (by simp [Op.operands])]
  exact hs s' g1 g2 _ hK
 | call cl =>
  obtain ⟨callee,args,ts⟩:=cl
  cases callee with
  | builtin b =>
   cases b <;> first | (cases hm; done) | skip
   obtain ⟨args⟩:=args
   obtain ⟨ts⟩:=ts
   rcases args with _ | ⟨x,_ | ⟨y,_ | ⟨z,l⟩⟩⟩ <;> rcases ts with _ | ⟨t,_ | ⟨u,_ | ⟨v,m⟩⟩⟩ <;> first | (exact (show False from h).elim) | skip
   have h2 : (match Nat.beq t u with | true => aAppend T t (ev gl s x) (ev gl s y) s fun v s' => K (put dst v s') | false => False):=h
   cases htu : Nat.beq t u with
   | false => rw [htu] at h2; exact h2.elim
   | true =>
    rw [htu] at h2
    obtain ⟨v,s1,h3,e1,e3,hs⟩:=aAppend_pick h2
    obtain ⟨tm1,hp1,nx1⟩:=s1
    simp only at e1 e3 hs
    subst e1
    refine ⟨v,hp1,nx1,h3,e3,fun s' he g1 g2 K' hK => ?_⟩
    show (match Nat.beq t u with | true => aAppend T t (ev gl s' x) (ev gl s' y) s' fun v s'' => K' (put dst v s'') | false => False)
    rw [htu,he x (by simp [Op.operands,Call.operands]),he y (by simp [Op.operands,Call.operands])]
    exact hs s' g1 g2 _ hK
  | value g =>
   unfold aOp at h
   simp only at h
   cases hg : ev gl s g with
   | fn f cap =>
    rw [hg] at h
    simp only [forceL_eq] at h
    obtain ⟨r,hp1,h1,h2,h3,_⟩:=hH _ _ _ _ h
    refine ⟨r,hp1,s.nx,h1,fun k _ => h2 k,fun s' he e1 e2 K' hK => ?_⟩
    unfold aOp
    simp only
    rw [he g (by simp [Op.operands,Call.operands]),hg]
    simp only [forceL_eq]
    rw [evs_eq args.toList fun x hx' => he x (by simp [Op.operands,Call.operands]; right; simpa using hx')]
    have:=h3 s'.tm (fun v s'' => K' (put dst v s'')) hK
    rw [<- e1,<- e2] at this
    exact this
   | yl l =>
    rw [hg] at h
    simp only [forceL_eq] at h
    obtain ⟨r,hp1,h1,h2,h3,_⟩:=hH _ _ _ _ h
    refine ⟨r,hp1,s.nx,h1,fun k _ => h2 k,fun s' he e1 e2 K' hK => ?_⟩
    unfold aOp
    simp only
    rw [he g (by simp [Op.operands,Call.operands]),hg]
    simp only [forceL_eq]
    rw [evs_eq args.toList fun x hx' => he x (by simp [Op.operands,Call.operands]; right; simpa using hx')]
    have:=h3 s'.tm (fun v s'' => K' (put dst v s'')) hK
    rw [<- e1,<- e2] at this
    exact this
   | _ => rw [hg] at h; exact h.elim
  | _ => cases hm
 | _ => cases hm
theorem looks_op {ops : Array Oper} {o : Oper} {s s' : St} (h : ∀ t ∈ o.looksAt ops,s'.tm t = s.tm t) : ∀ x ∈ o.op.operands.toList,ev gl s' x = ev gl s x:=by
 intro x hx
 cases x with
 | tmp t =>
  refine h t ?_
  unfold Oper.looksAt
  rw [List.mem_append]
  left
  exact List.mem_filterMap.2 ⟨.tmp t,hx,rfl⟩
 | _ => rfl
theorem looks_guard {ops : Array Oper} {o : Oper} {d : Nat} {want : Bool} (h : guardOf ops o = some (some d,want)) : d ∈ o.looksAt ops:=by
 unfold guardOf at h
 cases hg : o.guard with
 | none => rw [hg] at h; cases h
 | some p =>
  obtain ⟨j,w⟩:=p
  rw [hg] at h
  simp only [Option.some.injEq,Prod.mk.injEq] at h
  unfold Oper.looksAt
  rw [List.mem_append,hg]
  right
  have h1:=h.1
  rw [nth_eq] at h1
  have : (ops[j]?).bind (·.dst) = some d:=by simpa using h1
  simp only [this]
  simp
theorem quiet_turns {o : Op} (h : quietOp o = true) : turnsOp o = false:=by
 cases o with
 | call cl =>
  obtain ⟨callee,args,ts⟩:=cl
  cases callee with
  | builtin b => cases b <;> first | rfl | (cases h; done)
  | _ => cases h
 | _ => first | rfl | (cases h; done)
theorem young_quiet {o : Op} {chk : Bool} {p : Nat -> Bool} {s : St} {X : Prop} (h : quietOp o = true) : young gl chk p o s X = X:=by
 unfold young
 rw [quiet_turns h]
theorem young_turn {o : Op} {chk : Bool} {p : Nat -> Bool} {s : St} {X : Prop} (h : young gl chk p o s X) :
  X∧(turnsOp o = true -> chk = true -> ∀ k,p k = true -> k ∉ touch gl o s)∧∀ (s' : St) (X' : Prop),touch gl o s' = touch gl o s -> X' -> young gl chk p o s' X':=by
 unfold young at h
 cases ht : turnsOp o with
 | false => rw [ht] at h; exact ⟨h,fun e => (by cases e),fun s' X' _ hX => by unfold young; rw [ht]; exact hX⟩
 | true =>
  rw [ht] at h
  simp only at h
  cases chk with
  | false => exact ⟨h,fun _ e => (by cases e),fun s' X' _ hX => by unfold young; rw [ht]; exact hX⟩
  | true =>
   simp only at h
   cases ha : (touch gl o s).all fun k => not (p k) with
   | false => rw [ha] at h; exact h.elim
   | true =>
    rw [ha] at h
    refine ⟨h,fun _ _ k hk hm => ?_,fun s' X' he hX => by unfold young; rw [ht]; simp only [he,ha]; exact hX⟩
    have:=List.all_eq_true.1 ha k hm
    rw [hk] at this
    cases this
theorem touch_eq {o : Op} {s s' : St} (h : ∀ x ∈ o.operands.toList,ev gl s' x = ev gl s x) (hn : s'.nx = s.nx) : touch gl o s' = touch gl o s:=by
 cases o with
 | alloc e => simp only [touch,hn]
 | box e x => simp only [touch,hn]
 | buildSlice t n ps => simp only [touch,hn]
 | makeSlice t x y => simp only [touch,hn]
 | store t x y => simp only [touch]; rw [h x (by simp [Op.operands])]
 | call cl =>
  obtain ⟨callee,args,ts⟩:=cl
  cases callee with
  | builtin b =>
   cases b <;> first | rfl | skip
   obtain ⟨args⟩:=args
   cases args with
   | nil => rfl
   | cons x l => simp only [touch]; rw [h x (by simp [Op.operands,Call.operands]),hn]
  | _ => rfl
 | _ => rfl
theorem blt0 (k : Nat) : Nat.blt k 0 = false:=by unfold Nat.blt; rfl
mutual
theorem bl_mono {n : Nat} : ∀ {v : AV},bl 0 v = true -> bl n v = true
 | .bp k _,h => by rw [bl,blt0] at h; cases h
 | .ap k _ _,h => by rw [bl,blt0] at h; cases h
 | .ms k _ _,h => by rw [bl,blt0] at h; cases h
 | .fn _ cap,h => by rw [bl] at h ⊢; exact bls_mono h
 | .agg cs,h => by rw [bl] at h ⊢; exact bls_mono h
 | .tup cs,h => by rw [bl] at h ⊢; exact bls_mono h
 | .bool _,_ => rfl
 | .int _ _,_ => rfl
 | .nil,_ => rfl
 | .sl _,_ => rfl
 | .er _ _,_ => rfl
 | .yl _,_ => rfl
 | .lit _,_ => rfl
 | .undef,_ => rfl
 | .str _,_ => rfl
theorem bls_mono {n : Nat} : ∀ {l : List AV},bls 0 l = true -> bls n l = true
 | [],_ => rfl
 | v :: vs,h => by
  simp only [bls,Bool.and_eq_true] at h ⊢
  exact ⟨bl_mono h.1,bls_mono h.2⟩
end
theorem blB_mono {n : Nat} {b : Option Blk} (h : blB 0 b = true) : blB n b = true:=by
 unfold blB at *
 split <;> first | exact bls_mono h | rfl
def quietF (f : Fl) (op : Op) : Bool:=or (pureF f op) (readF f op)
theorem quietF_no {f : Fl} (h : f.fz = false) (op : Op) : quietF f op = quietOp op:=by unfold quietF pureF readF quietOp; rw [h]; simp
theorem pureF_no {f : Fl} (h : f.fz = false) (op : Op) : pureF f op = pureOp op:=by unfold pureF; rw [h]; simp
theorem turnsF_no {f : Fl} (h : f.fz = false) (op : Op) : turnsF f op = turnsOp op:=by unfold turnsF; rw [h]; simp
structure Free (T : List (Nat × TyI)) (gl : List (Nat × AV)) (HD H : Tg -> List AV -> St -> (AV -> St -> Prop) -> Prop) (fl : Oper -> Fl) (p : Nat -> Bool) (ops : Array Oper) (o : Oper) (s : St) (v : AV) (hp1 : Nat -> Option Blk) (nx1 : Nat) : Prop where
 tm : ∀ tm',(∀ t ∈ o.looksAt ops,tm' t = s.tm t) -> ∀ K' : St -> Prop,K' (put o.dst v ⟨tm',hp1,nx1⟩) -> stepA T gl HD H fl p ops o ⟨tm',s.hp,s.nx⟩ K'
 quiet : quietF (fl o) o.op = true -> hp1 = s.hp∧nx1 = s.nx
 pure : pureF (fl o) o.op = true -> ∀ tm' hp' nx',(∀ t ∈ o.looksAt ops,tm' t = s.tm t) -> ∀ K' : St -> Prop,K' (put o.dst v ⟨tm',hp',nx'⟩) -> stepA T gl HD H fl p ops o ⟨tm',hp',nx'⟩ K'
 read : (fl o).lim = true -> quietF (fl o) o.op = true -> ∀ tm' hp' nx',(∀ t ∈ o.looksAt ops,tm' t = s.tm t) -> (∀ k,p k = true -> HpEq (s.hp k) (hp' k)) -> ∀ K' : St -> Prop,K' (put o.dst v ⟨tm',hp',nx'⟩) -> stepA T gl HD H fl p ops o ⟨tm',hp',nx'⟩ K'
 turn : turnsF (fl o) o.op = true -> (fl o).chk = true -> ∀ k,p k = true -> HpEq (s.hp k) (hp1 k)
 same : (fl o).old = true -> ∀ k,Nat.blt k (fl o).lo = false -> HpEq (s.hp k) (hp1 k)
 frame : (fl o).old = true -> ∀ k b,p k = false -> Nat.blt k (fl o).lo = false -> blB 0 b = true -> ∀ tm',(∀ t ∈ o.looksAt ops,tm' t = s.tm t) -> ∀ K' : St -> Prop,K' (put o.dst v ⟨tm',upd k b hp1,nx1⟩) -> stepA T gl HD H fl p ops o ⟨tm',upd k b s.hp,s.nx⟩ K'
theorem upd_commx {k j : Nat} {a b : Option Blk} {hp : Nat -> Option Blk} (e : k ≠ j) : upd k a (upd j b hp) = upd j b (upd k a hp):=by
 funext i
 by_cases e1 : i = k
 ·subst e1; rw [upd_same,upd_ne e,upd_same]
 ·by_cases e2 : i = j
  ·subst e2; rw [upd_ne (Ne.symm e),upd_same,upd_same]
  ·rw [upd_ne e1,upd_ne e2,upd_ne e2,upd_ne e1]
theorem call_pick {HD HE : Tg -> List AV -> St -> (AV -> St -> Prop) -> Prop} (hH : HMakes HD) {lim : Option (Nat -> Bool)} {lo : Nat} {p : Nat -> Bool} {o : Oper} {s : St} {K : St -> Prop}
  (h : aOpO T gl true lo p HD HE lim o s K) :
  turnsOp o.op = true∧quietOp o.op = false∧∃ v hp1,K (put o.dst v ⟨s.tm,hp1,s.nx⟩)∧(∀ k,Nat.blt k lo = false ∨ p k = true -> HpEq (s.hp k) (hp1 k)) ∧
  (∀ s' : St,(∀ x ∈ o.op.operands.toList,ev gl s' x = ev gl s x) -> s'.hp = s.hp -> s'.nx = s.nx -> ∀ K' : St -> Prop,K' (put o.dst v ⟨s'.tm,hp1,s.nx⟩) -> aOpO T gl true lo p HD HE lim o s' K') ∧
  (∀ k b,p k = false -> Nat.blt k lo = false -> blB 0 b = true -> ∀ s' : St,(∀ x ∈ o.op.operands.toList,ev gl s' x = ev gl s x) -> s'.hp = upd k b s.hp -> s'.nx = s.nx -> ∀ K' : St -> Prop,K' (put o.dst v ⟨s'.tm,upd k b hp1,s.nx⟩) -> aOpO T gl true lo p HD HE lim o s' K'):=by
 obtain ⟨dst,op,type,pos,after,guard⟩:=o
 simp only at h ⊢
 cases op with
 | call cl =>
  obtain ⟨callee,args,ts⟩:=cl
  cases callee with
  | value g =>
   unfold aOpO at h
   simp only at h
   cases hg : ev gl s g with
   | fn f cap =>
    rw [hg] at h
    simp only [appL_eq] at h
    cases hks : (keysAs (evs gl s args.toList ++ cap)).all p with
    | false => rw [hks] at h; exact h.elim
    | true =>
     rw [hks] at h
     simp only at h
     have eg : ∀ s' : St,(∀ x ∈ (Op.call ⟨.value g,args,ts⟩).operands.toList,ev gl s' x = ev gl s x) -> ev gl s' g = .fn f cap∧evs gl s' args.toList = evs gl s args.toList:=fun s' he =>
      ⟨by rw [he g (by simp [Op.operands,Call.operands]),hg],evs_eq args.toList fun x hx' => he x (by simp [Op.operands,Call.operands]; right; simpa using hx')⟩
     cases hpt : ptrs (evs gl s args.toList ++ cap) with
     | false =>
      rw [hpt] at h
      simp only at h
      unfold aOp at h
      simp only [hg,forceL_eq,appL_eq] at h
      obtain ⟨r,hp1,h1,h2,h3,h4⟩:=hH _ _ _ _ h
      have hnk : ∀ k,p k = false -> k ∉ keysAs (evs gl s args.toList ++ cap):=fun k hk hm => by
       have:=List.all_eq_true.1 hks k hm
       rw [hk] at this; cases this
      refine ⟨rfl,rfl,r,hp1,h1,fun k _ => h2 k,fun s' he e1 e2 K' hK => ?_,fun k b hk _ _ s' he e1 e2 K' hK => ?_⟩
      ·obtain ⟨eg,ea⟩:=eg s' he
       unfold aOpO aOp
       simp only [eg,ea,appL_eq,hks,hpt,forceL_eq]
       have:=h3 s'.tm (fun v s'' => K' (put dst v s'')) hK
       rw [<- e1,<- e2] at this
       exact this
      ·obtain ⟨eg,ea⟩:=eg s' he
       unfold aOpO aOp
       simp only [eg,ea,appL_eq,hks,hpt,forceL_eq]
       have:=h4 hpt k b (hnk k hk) s'.tm (fun v s'' => K' (put dst v s'')) hK
       rw [<- e1,<- e2] at this
       exact this
     | true =>
      rw [hpt] at h
      simp only at h
      obtain ⟨h0,r,ch,hch,h1,h2⟩:=h
      refine ⟨rfl,rfl,r,chH ch s.hp,h1,fun k hk => ?_,fun s' he e1 e2 K' hK => ?_,fun k b hk hlo hb s' he e1 e2 K' hK => ?_⟩
      ·cases ch with
       | none => exact .inl rfl
       | some q =>
        obtain ⟨j,bj⟩:=q
        simp only [okCh,Bool.and_eq_true,Bool.not_eq_true'] at hch
        have hne : k ≠ j:=fun e => by
         subst e
         rcases hk with hk | hk
         ·rw [hch.1] at hk; cases hk
         ·rw [hch.2] at hk; cases hk
        show HpEq (s.hp k) (upd j (some bj) s.hp k)
        rw [upd_ne hne]; exact .inl rfl
      ·obtain ⟨eg,ea⟩:=eg s' he
       unfold aOpO
       simp only [eg,ea,appL_eq,hks,hpt]
       rw [<- e1,<- e2] at hK
       refine ⟨by rw [e1,e2]; exact h0,r,ch,hch,hK,fun tm hp ag cl dm K'' hK'' => ?_⟩
       rw [e2] at hK'' cl dm ⊢
       exact h2 tm hp (fun j hj => by rw [ag j hj,e1]) cl dm K'' hK''
      ·obtain ⟨eg,ea⟩:=eg s' he
       unfold aOpO
       simp only [eg,ea,appL_eq,hks,hpt]
       have hcom : upd k b (chH ch s.hp) = chH ch s'.hp:=by
        rw [e1]
        cases ch with
        | none => rfl
        | some q =>
         obtain ⟨j,bj⟩:=q
         simp only [okCh,Bool.and_eq_true,Bool.not_eq_true'] at hch
         have hne : k ≠ j:=fun e => by subst e; rw [hch.1] at hlo; cases hlo
         exact upd_commx hne
       rw [hcom,<- e2] at hK
       refine ⟨fun j hj => ?_,r,ch,hch,hK,fun tm hp ag cl dm K'' hK'' => ?_⟩
       ·rw [e2] at hj ⊢
        rw [e1]
        by_cases e : j = k
        ·subst e; rw [upd_same]; exact blB_mono hb
        ·rw [upd_ne e]; exact h0 j hj
       rw [e2] at hK'' cl dm ⊢
       refine h2 tm hp (fun j hj => ?_) cl dm K'' hK''
       have hne : j ≠ k:=fun e => by subst e; rw [hlo] at hj; cases hj
       rw [ag j hj,e1,upd_ne hne]
   | _ => rw [hg] at h; exact h.elim
  | builtin b => exact h.elim
  | _ => exact h.elim
 | _ => exact h.elim
theorem op_free {HD HE : Tg -> List AV -> St -> (AV -> St -> Prop) -> Prop} (hH : HMakes HD) {lim : Option (Nat -> Bool)} {chk old : Bool} {lo : Nat} {p : Nat -> Bool} {o : Oper} {s : St} {K : St -> Prop} (hq : quietOp o.op = true ∨ turnsOp o.op = true)
  (h : young gl chk p o.op s (aOpO T gl old lo p HD HE lim o s K)) :
  ∃ v hp1 nx1,K (put o.dst v ⟨s.tm,hp1,nx1⟩) ∧
  (∀ s' : St,(∀ x ∈ o.op.operands.toList,ev gl s' x = ev gl s x) -> s'.hp = s.hp -> s'.nx = s.nx -> ∀ K' : St -> Prop,K' (put o.dst v ⟨s'.tm,hp1,nx1⟩) -> young gl chk p o.op s' (aOpO T gl old lo p HD HE lim o s' K')) ∧
  (quietOp o.op = true -> hp1 = s.hp∧nx1 = s.nx) ∧
  (pureOp o.op = true -> ∀ s',(∀ x ∈ o.op.operands.toList,ev gl s' x = ev gl s x) -> ∀ K' : St -> Prop,K' (put o.dst v s') -> young gl chk p o.op s' (aOpO T gl old lo p HD HE lim o s' K')) ∧
  (lim = some p -> quietOp o.op = true -> ∀ s',(∀ x ∈ o.op.operands.toList,ev gl s' x = ev gl s x) -> (∀ k,p k = true -> HpEq (s.hp k) (s'.hp k)) -> ∀ K' : St -> Prop,K' (put o.dst v s') -> young gl chk p o.op s' (aOpO T gl old lo p HD HE lim o s' K')) ∧
  (turnsOp o.op = true -> chk = true -> ∀ k,p k = true -> HpEq (s.hp k) (hp1 k)) ∧
  (old = true -> ∀ k,Nat.blt k lo = false -> HpEq (s.hp k) (hp1 k)) ∧
  (old = true -> ∀ k b,p k = false -> Nat.blt k lo = false -> blB 0 b = true -> ∀ s' : St,(∀ x ∈ o.op.operands.toList,ev gl s' x = ev gl s x) -> s'.hp = upd k b s.hp -> s'.nx = s.nx -> ∀ K' : St -> Prop,K' (put o.dst v ⟨s'.tm,upd k b hp1,nx1⟩) -> young gl chk p o.op s' (aOpO T gl old lo p HD HE lim o s' K')):=by
 cases old with
 | true =>
  obtain ⟨h,hy,hback⟩:=young_turn h
  obtain ⟨hm,hqq,v,hp1,h1,h2,h3,h4⟩:=call_pick hH h
  refine ⟨v,hp1,s.nx,h1,fun s' he e1 e2 K' hK => hback s' _ (touch_eq he e2) (h3 s' he e1 e2 K' hK),(fun e => by rw [hqq] at e; cases e),fun e => ?_,(fun _ e => by rw [hqq] at e; cases e),fun _ _ k hk => h2 k (.inr hk),fun _ k hk => h2 k (.inl hk),fun _ k b hk hlo hb s' he e1 e2 K' hK => hback s' _ (touch_eq he e2) (h4 k b hk hlo hb s' he e1 e2 K' hK)⟩
  unfold quietOp at hqq
  rw [e] at hqq
  cases hqq
 | false =>
 have hof : ∀ (s : St) (K : St -> Prop),aOpO T gl false lo p HD HE lim o s K = aOp T gl HD lim o s K:=fun _ _ => rfl
 simp only [hof] at h ⊢
 cases hqq : quietOp o.op with
 | true =>
  rw [young_quiet hqq] at h
  simp only [young_quiet hqq]
  obtain ⟨v,h1,h2,h3,h4⟩:=quiet_pick hqq h
  refine ⟨v,s.hp,s.nx,h1,fun s' he e1 e2 K' hK => h2 s' he e1 K' (by rw [<- e1,<- e2] at hK; exact hK),fun _ => ⟨rfl,rfl⟩,h3,fun hl _ s' he hh K' hK => h4 p hl s' he hh K' hK,fun ht => ?_,(fun e => by cases e),(fun e => by cases e)⟩
  rw [quiet_turns hqq] at ht; cases ht
 | false =>
  have hm : turnsOp o.op = true:=by rcases hq with e | e; rw [e] at hqq; cases hqq; exact e
  obtain ⟨h,hy,hback⟩:=young_turn h
  obtain ⟨v,hp1,nx1,h1,h2,h3⟩:=turns_pick hH hm h
  refine ⟨v,hp1,nx1,h1,fun s' he e1 e2 K' hK => hback s' _ (touch_eq he e2) (h3 s' he e1 e2 K' hK),(fun e => by cases e),fun e => ?_,(fun _ e => by cases e),fun ht hc k hk => h2 k (hy ht hc k hk),(fun e => by cases e),(fun e => by cases e)⟩
  unfold quietOp at hqq
  rw [e] at hqq
  cases hqq
theorem fz_pick {o : Oper} {s : St} {K : St -> Prop} (h : aFz T gl o s K) :
  ∃ v,K (put o.dst v s)∧∀ s' : St,(∀ x ∈ o.op.operands.toList,ev gl s' x = ev gl s x) -> ∀ K' : St -> Prop,K' (put o.dst v s') -> aFz T gl o s' K':=by
 obtain ⟨dst,op,type,pos,after,guard⟩:=o
 unfold aFz at h
 cases op with
 | buildSlice t n ps =>
  simp only at h
  unfold aFz
  simp only
  cases hl : (look T t).bind fun i => i.sl with
  | none => rw [hl] at h; exact h.elim
  | some et =>
   rw [hl] at h
   simp only at h ⊢
   cases he : look T et with
   | none => rw [he] at h; exact h.elim
   | some e =>
    rw [he] at h
    simp only at h ⊢
    cases hs : e.sl with
    | some _ => rw [hs] at h; exact h.elim
    | none =>
     rw [hs] at h
     simp only at h ⊢
     obtain ⟨row,h,hre⟩:=Sel.toDs (cells e.zv) _ h
     cases hc : Bool.and (Bool.and (Nat.ble 1 e.sz) (Nat.beq (lenL row) e.sz)) (Nat.ble (n * e.sz) 65536) with
     | false => rw [hc] at h; exact h.elim
     | true =>
      rw [hc] at h
      simp only at h
      obtain ⟨rows,h,hre2⟩:=Sel.fillR (evParts gl s ps.toList) (List.replicate n row) _ h
      refine ⟨.sl rows,h,fun s' he' K' hK => hre _ ?_⟩
      rw [hc]
      simp only
      rw [evParts_eq ps.toList fun q hq => he' q.2 (by simp [Op.operands]; exact ⟨q.1,by simpa using hq⟩)]
      exact hre2 _ hK
 | _ => exact h.elim
theorem step_free {HD : Tg -> List AV -> St -> (AV -> St -> Prop) -> Prop} (hH : HMakes HD) {fl : Oper -> Fl} {p : Nat -> Bool} {ops : Array Oper} {o : Oper} {s : St} {K : St -> Prop} (hh : (fl o).hs = false) (hky : (fl o).ky = none)
  (hq : quietF (fl o) o.op = true ∨ turnsF (fl o) o.op = true) (h : stepA T gl HD H fl p ops o s K) :
  ∃ v hp1 nx1,K (put o.dst v ⟨s.tm,hp1,nx1⟩)∧Free T gl HD H fl p ops o s v hp1 nx1:=by
 have hlim : (fl o).lim = true -> (bif (fl o).lim then some p else none) = some p:=fun e => by rw [e]; rfl
 cases hfz : (fl o).fz with
 | true =>
  unfold stepA at h
  rw [hky,hfz] at h
  simp only at h
  cases hg : guardOf ops o with
  | some q => rw [hg] at h; exact h.elim
  | none =>
   rw [hg] at h
   obtain ⟨v,h1,h2⟩:=fz_pick h
   have fin : ∀ tm' hp' nx',(∀ t ∈ o.looksAt ops,tm' t = s.tm t) -> ∀ K' : St -> Prop,K' (put o.dst v ⟨tm',hp',nx'⟩) -> stepA T gl HD H fl p ops o ⟨tm',hp',nx'⟩ K':=by
    intro tm' hp' nx' he K' hK
    unfold stepA; rw [hky,hfz,hg]
    exact h2 ⟨tm',hp',nx'⟩ (looks_op he) K' hK
   refine ⟨v,s.hp,s.nx,h1,⟨fun tm' he K' hK => fin _ _ _ he K' hK,fun _ => ⟨rfl,rfl⟩,fun _ tm' hp' nx' he K' hK => fin _ _ _ he K' hK,fun _ _ tm' hp' nx' he _ K' hK => fin _ _ _ he K' hK,fun e => ?_,fun _ k _ => .inl rfl,fun _ k b _ _ _ tm' he K' hK => fin _ _ _ he K' hK⟩⟩
   unfold turnsF at e; rw [hfz] at e; cases e
 | false =>
 have qf:=quietF_no hfz o.op
 have pf:=pureF_no hfz o.op
 have tf:=turnsF_no hfz o.op
 rw [qf,tf] at hq
 unfold stepA at h
 rw [hh,hky,hfz] at h
 simp only at h
 cases hg : guardOf ops o with
 | none =>
  rw [hg] at h
  obtain ⟨v,hp1,nx1,h1,h2,h3,h4,h5,h6,h7,h8⟩:=op_free hH hq h
  refine ⟨v,hp1,nx1,h1,⟨fun tm' he K' hK => ?_,fun e => h3 (qf ▸ e),fun e tm' hp' nx' he K' hK => ?_,fun hl e tm' hp' nx' he hhp K' hK => ?_,fun e => h6 (tf ▸ e),h7,fun e k b hk hlo hbb tm' he K' hK => ?_⟩⟩
  ·unfold stepA; rw [hg,hh,hky,hfz]
   exact h2 ⟨tm',s.hp,s.nx⟩ (looks_op he) rfl rfl K' hK
  ·unfold stepA; rw [hg,hh,hky,hfz]
   exact h4 (pf ▸ e) ⟨tm',hp',nx'⟩ (looks_op he) K' hK
  ·unfold stepA; rw [hg,hh,hky,hfz]
   exact h5 (hlim hl) (qf ▸ e) ⟨tm',hp',nx'⟩ (looks_op he) hhp K' hK
  ·unfold stepA; rw [hg,hh,hky,hfz]
   exact h8 e k b hk hlo hbb ⟨tm',upd k b s.hp,s.nx⟩ (looks_op he) rfl rfl K' hK
 | some q =>
  obtain ⟨d,want⟩:=q
  cases d with
  | none => rw [hg] at h; exact h.elim
  | some d =>
   rw [hg] at h
   simp only at h
   have hd:=looks_guard hg
   cases hb : s.tm d with
   | bool b =>
    rw [hb] at h
    obtain ⟨ha,hc⟩:=h
    by_cases hbw : b = want
    ·subst hbw
     have h:=ha rfl
     rw [put_same hb] at h
     obtain ⟨v,hp1,nx1,h1,h2,h3,h4,h5,h6,h7,h8⟩:=op_free hH hq h
     have fin : ∀ tm' hp' nx' (K' : St -> Prop),(∀ t ∈ o.looksAt ops,tm' t = s.tm t) -> young gl (fl o).chk p o.op ⟨tm',hp',nx'⟩ (aOpO T gl (fl o).old (fl o).lo p HD H (bif (fl o).lim then some p else none) o ⟨tm',hp',nx'⟩ K') -> stepA T gl HD H fl p ops o ⟨tm',hp',nx'⟩ K':=by
      intro tm' hp' nx' K' he hy
      unfold stepA; rw [hg,hh,hky,hfz]
      have hb' : tm' d = .bool b:=by rw [he d hd,hb]
      simp only [hb']
      refine ⟨fun _ => ?_,fun e => by cases b <;> cases e⟩
      rw [put_same (s:=⟨tm',hp',nx'⟩) hb']
      exact hy
     exact ⟨v,hp1,nx1,h1,⟨fun tm' he K' hK => fin _ _ _ _ he (h2 ⟨tm',s.hp,s.nx⟩ (looks_op he) rfl rfl K' hK),fun e => h3 (qf ▸ e),fun e tm' hp' nx' he K' hK => fin _ _ _ _ he (h4 (pf ▸ e) ⟨tm',hp',nx'⟩ (looks_op he) K' hK),
      fun hl e tm' hp' nx' he hhp K' hK => fin _ _ _ _ he (h5 (hlim hl) (qf ▸ e) ⟨tm',hp',nx'⟩ (looks_op he) hhp K' hK),fun e => h6 (tf ▸ e),h7,fun e k b hk hlo hbb tm' he K' hK => fin _ _ _ _ he (h8 e k b hk hlo hbb ⟨tm',upd k b s.hp,s.nx⟩ (looks_op he) rfl rfl K' hK)⟩⟩
    ·have hbn : b = !want:=by cases b <;> cases want <;> simp_all
     have h:=hc hbn
     rw [<- hbn,put_same hb] at h
     have fin : ∀ tm' hp' nx' (K' : St -> Prop),(∀ t ∈ o.looksAt ops,tm' t = s.tm t) -> K' (put o.dst (.tup []) ⟨tm',hp',nx'⟩) -> stepA T gl HD H fl p ops o ⟨tm',hp',nx'⟩ K':=by
      intro tm' hp' nx' K' he hK
      unfold stepA; rw [hg,hh,hky,hfz]
      have hb' : tm' d = .bool b:=by rw [he d hd,hb]
      simp only [hb']
      refine ⟨fun e => absurd e hbw,fun _ => ?_⟩
      rw [<- hbn,put_same (s:=⟨tm',hp',nx'⟩) hb']
      exact hK
     exact ⟨.tup [],s.hp,s.nx,h,⟨fun tm' he K' hK => fin _ _ _ _ he hK,fun _ => ⟨rfl,rfl⟩,fun e tm' hp' nx' he K' hK => fin _ _ _ _ he hK,fun hl e tm' hp' nx' he hhp K' hK => fin _ _ _ _ he hK,fun _ _ k _ => .inl rfl,fun _ k _ => .inl rfl,fun _ k b _ _ _ tm' he K' hK => fin _ _ _ _ he hK⟩⟩
   | tup l =>
    rw [hb] at h
    cases l with
    | cons _ _ => exact h.elim
    | nil =>
     have fin : ∀ tm' hp' nx' (K' : St -> Prop),(∀ t ∈ o.looksAt ops,tm' t = s.tm t) -> K' (put o.dst (.tup []) ⟨tm',hp',nx'⟩) -> stepA T gl HD H fl p ops o ⟨tm',hp',nx'⟩ K':=by
      intro tm' hp' nx' K' he hK
      unfold stepA; rw [hg,hh,hky,hfz]
      have hb' : tm' d = .tup []:=by rw [he d hd,hb]
      simp only [hb']
      exact hK
     exact ⟨.tup [],s.hp,s.nx,h,⟨fun tm' he K' hK => fin _ _ _ _ he hK,fun _ => ⟨rfl,rfl⟩,fun e tm' hp' nx' he K' hK => fin _ _ _ _ he hK,fun hl e tm' hp' nx' he hhp K' hK => fin _ _ _ _ he hK,fun _ _ k _ => .inl rfl,fun _ k _ => .inl rfl,fun _ k b _ _ _ tm' he K' hK => fin _ _ _ _ he hK⟩⟩
   | _ => rw [hb] at h; exact h.elim
theorem put_tm {d : Option Nat} {v : AV} {tm : Nat -> AV} {hp : Nat -> Option Blk} {nx : Nat} : put d v ⟨tm,hp,nx⟩ = ⟨(put d v ⟨tm,hp,nx⟩).tm,hp,nx⟩:=by
 cases d <;> rfl
theorem put_looks {d : Nat} {v : AV} {tm : Nat -> AV} {hp : Nat -> Option Blk} {nx : Nat} {l : List Nat} (h : d ∉ l) : ∀ t ∈ l,(put (some d) v ⟨tm,hp,nx⟩).tm t = tm t:=by
 intro t ht
 have : t ≠ d:=fun e => h (e ▸ ht)
 simp only [put]
 rw [beq_ne this]; rfl
theorem put_looks' {d : Option Nat} {v : AV} {tm : Nat -> AV} {hp : Nat -> Option Blk} {nx : Nat} {l : List Nat} (h : ∀ e,d = some e -> e ∉ l) : ∀ t ∈ l,(put d v ⟨tm,hp,nx⟩).tm t = tm t:=by
 cases d with
 | none => intro t _; rfl
 | some d => exact put_looks (h d rfl)
theorem swap0 {HD : Tg -> List AV -> St -> (AV -> St -> Prop) -> Prop} (hH : HMakes HD) {fl : Oper -> Fl} {p : Nat -> Bool} {ops : Array Oper} {x i : Oper} {s : St} {K : St -> Prop} (hap : x.apart ops i = true) (hx : (fl x).hs = false) (hii : (fl i).hs = false) (kx : (fl x).ky = none) (ki : (fl i).ky = none) (hk : indep0 fl x i = true)
  (h : stepA T gl HD H fl p ops x s fun s1 => stepA T gl HD H fl p ops i s1 K) : stepA T gl HD H fl p ops i s fun s1 => stepA T gl HD H fl p ops x s1 K:=by
 have hq : ∀ (f : Fl) (o : Op),(pureF f o = true ∨ readF f o = true) -> quietF f o = true:=fun f o h => by unfold quietF; rcases h with h | h <;> simp [h]
 have hqp : ∀ (f : Fl) (o : Op),pureF f o = true -> quietF f o = true:=fun f o h => hq f o (.inl h)
 have hqr : ∀ (f : Fl) (o : Op),readF f o = true -> quietF f o = true:=fun f o h => hq f o (.inr h)
 simp only [indep0,Bool.and_eq_true,Bool.or_eq_true] at hk
 obtain ⟨a1,a2,a3⟩:=Oper.apart_spec hap
 have cx : quietF (fl x) x.op = true ∨ turnsF (fl x) x.op = true:=by
  rcases hk with (⟨e,_⟩ | ⟨e,_⟩ | ⟨e,_⟩) | ⟨⟨e,_⟩,_⟩ | ⟨⟨e,_⟩,_⟩
  ·exact .inl (hq _ _ e)
  ·exact .inl (hqp _ _ e)
  ·exact .inr e
  ·exact .inl (hqr _ _ e)
  ·exact .inr e
 have ci : quietF (fl i) i.op = true ∨ turnsF (fl i) i.op = true:=by
  rcases hk with (⟨_,e⟩ | ⟨_,e⟩ | ⟨_,e⟩) | ⟨_,e,_⟩ | ⟨_,e,_⟩
  ·exact .inl (hq _ _ e)
  ·exact .inr e
  ·exact .inl (hqp _ _ e)
  ·exact .inr e
  ·exact .inl (hqr _ _ e)
 obtain ⟨v,hp1,nx1,h,fx⟩:=step_free hH hx kx cx h
 obtain ⟨u,hp2,nx2,h,fi⟩:=step_free hH hii ki ci h
 have ehp : (put x.dst v ⟨s.tm,hp1,nx1⟩).hp = hp1:=by cases x.dst <;> rfl
 have enx : (put x.dst v ⟨s.tm,hp1,nx1⟩).nx = nx1:=by cases x.dst <;> rfl
 have etm : ∀ hp nx,(put x.dst v ⟨s.tm,hp,nx⟩).tm = (put x.dst v ⟨s.tm,hp1,nx1⟩).tm:=fun hp nx => by cases x.dst <;> rfl
 have eput : ∀ (d : Option Nat) (w : AV) tm hp nx,(put d w ⟨tm,hp,nx⟩).hp = hp∧(put d w ⟨tm,hp,nx⟩).nx = nx:=fun d w tm hp nx => by cases d <;> exact ⟨rfl,rfl⟩
 have hcomm : ∀ hp nx,put i.dst u ⟨(put x.dst v ⟨s.tm,hp1,nx1⟩).tm,hp,nx⟩ = put x.dst v ⟨(put i.dst u ⟨s.tm,s.hp,s.nx⟩).tm,hp,nx⟩:=by
  intro hp nx
  cases ex : x.dst with
  | none => cases i.dst <;> rfl
  | some dx =>
   cases ei : i.dst with
   | none => rfl
   | some di =>
    have b2 : di ≠ dx:=fun e => a2 dx ex (by rw [ei,e])
    simp only [put,St.mk.injEq,and_self,and_true]
    funext k
    by_cases e1 : k = dx
    ·subst e1
     rw [show Nat.beq k k = true from Nat.beq_refl k,beq_ne (Ne.symm b2)]
     rfl
    ·rw [beq_ne e1]
     rfl
 have hlx : ∀ t ∈ i.looksAt ops,s.tm t = (put x.dst v ⟨s.tm,hp1,nx1⟩).tm t:=fun t ht => (put_looks' a1 t ht).symm
 have hli : ∀ t ∈ x.looksAt ops,(put i.dst u ⟨s.tm,s.hp,s.nx⟩).tm t = s.tm t:=put_looks' a3
 have hfin : K (put x.dst v ⟨(put i.dst u ⟨s.tm,s.hp,s.nx⟩).tm,hp2,nx2⟩):=by rw [<- hcomm]; exact h
 clear h
 have ftm:=fi.tm s.tm hlx (fun s1 => stepA T gl HD H fl p ops x s1 K)
 rw [ehp,enx] at ftm
 rw [put_tm] at ftm
 have fq:=fi.quiet
 rw [ehp,enx] at fq
 have itm : ∀ hp nx,(put i.dst u ⟨s.tm,hp,nx⟩).tm = (put i.dst u ⟨s.tm,s.hp,s.nx⟩).tm:=fun hp nx => by cases i.dst <;> rfl
 have fwd : quietF (fl i) i.op = true -> (∀ K' : St -> Prop,K' (put i.dst u ⟨s.tm,s.hp,s.nx⟩) -> stepA T gl HD H fl p ops i ⟨s.tm,s.hp,s.nx⟩ K') -> stepA T gl HD H fl p ops i s fun s1 => stepA T gl HD H fl p ops x s1 K:=by
  intro hqi hgo
  obtain ⟨e1,e2⟩:=fq hqi
  refine hgo _ ?_
  rw [put_tm]
  refine fx.tm _ hli K ?_
  rw [e1,e2] at hfin
  exact hfin
 have bwd : quietF (fl x) x.op = true -> (∀ K' : St -> Prop,K' (put x.dst v ⟨(put i.dst u ⟨s.tm,s.hp,s.nx⟩).tm,hp2,nx2⟩) -> stepA T gl HD H fl p ops x ⟨(put i.dst u ⟨s.tm,s.hp,s.nx⟩).tm,hp2,nx2⟩ K') -> stepA T gl HD H fl p ops i s fun s1 => stepA T gl HD H fl p ops x s1 K:=by
  intro hqx hgo
  obtain ⟨e1,e2⟩:=fx.quiet hqx
  have:=ftm (by rw [itm]; exact hgo K hfin)
  rw [e1,e2] at this
  exact this
 rcases hk with (⟨e1,e2⟩ | ⟨e1,e2⟩ | ⟨e1,e2⟩) | ⟨⟨e1,e3⟩,e2,e4⟩ | ⟨⟨e1,e3⟩,e2,e4⟩
 ·refine fwd (hq _ _ e2) fun K' hK => ?_
  obtain ⟨g1,g2⟩:=fx.quiet (hq _ _ e1)
  have:=fi.tm s.tm hlx K'
  rw [ehp,enx] at this
  obtain ⟨g3,g4⟩:=fq (hq _ _ e2)
  rw [g3,g4] at this
  rw [g1,g2] at this
  exact this hK
 ·exact bwd (hqp _ _ e1) fun K' hK => fx.pure e1 _ _ _ hli K' hK
 ·exact fwd (hqp _ _ e2) fun K' hK => fi.pure e2 s.tm s.hp s.nx hlx K' hK
 ·refine bwd (hqr _ _ e1) fun K' hK => fx.read e3 (hqr _ _ e1) _ _ _ hli (fun k hkp => ?_) K' hK
  have:=fi.turn e2 e4 k hkp
  rw [ehp] at this
  obtain ⟨g1,g2⟩:=fx.quiet (hqr _ _ e1)
  rw [g1] at this
  exact this
 ·refine fwd (hqr _ _ e2) fun K' hK => fi.read e4 (hqr _ _ e2) s.tm s.hp s.nx hlx (fun k hkp => ?_) K' hK
  rw [ehp]
  exact (fx.turn e1 e3 k hkp).symm
theorem HpEq.box {b : Option Blk} {cs : List AV} (h : HpEq (some (.box cs)) b) : b = some (.box cs):=by
 rcases h with h | ⟨sz,rows,l,l',h1,h2⟩
 ·exact h
 ·cases h1
theorem HpEq.res {b : Option Blk} (h : HpEq b (some .res)) : b = some .res:=by
 rcases h with h | ⟨sz,rows,l,l',h1,h2⟩
 ·exact h.symm
 ·cases h2
theorem upd_upd {k : Nat} {a b : Option Blk} {hp : Nat -> Option Blk} : upd k a (upd k b hp) = upd k a hp:=by
 funext j
 by_cases e : j = k
 ·subst e; simp [upd]
 ·rw [upd_ne e,upd_ne e,upd_ne e]
theorem upd_id {k : Nat} {a : Option Blk} {hp : Nat -> Option Blk} (h : hp k = a) : upd k a hp = hp:=by
 funext j
 by_cases e : j = k
 ·subst e; rw [upd_same,h]
 ·rw [upd_ne e]
theorem upd_comm {k j : Nat} {a b : Option Blk} {hp : Nat -> Option Blk} (e : k ≠ j) : upd k a (upd j b hp) = upd j b (upd k a hp):=by
 funext i
 by_cases e1 : i = k
 ·subst e1; rw [upd_same,upd_ne e,upd_same]
 ·by_cases e2 : i = j
  ·subst e2; rw [upd_ne (Ne.symm e),upd_same,upd_same]
  ·rw [upd_ne e1,upd_ne e2,upd_ne e2,upd_ne e1]
theorem aRes_pick {k : Nat} {o : Oper} {s : St} {K : St -> Prop} (h : aRes T k o s K) : s.hp k = some .res∧∃ v cs,bls 0 cs = true∧K (put o.dst v ⟨s.tm,upd k (some (.box cs)) s.hp,s.nx⟩) ∧
  ∀ (s' : St) (K' : St -> Prop),s'.hp k = some .res -> K' (put o.dst v ⟨s'.tm,upd k (some (.box cs)) s'.hp,s'.nx⟩) -> aRes T k o s' K':=by
 obtain ⟨dst,op,type,pos,after,guard⟩:=o
 unfold aRes at h
 cases hk : s.hp k with
 | none => rw [hk] at h; exact h.elim
 | some b =>
  cases b with
  | res =>
   rw [hk] at h
   cases guard with
   | some g => exact h.elim
   | none =>
    cases op with
    | alloc e =>
     simp only at h
     cases hl : look T e with
     | none => rw [hl] at h; exact h.elim
     | some i =>
      rw [hl] at h
      simp only at h
      cases h1 : and (ones (cells i.zv)) (bls 0 (cells i.zv)) with
      | false => rw [h1] at h; exact h.elim
      | true =>
       rw [h1] at h
       refine ⟨rfl,.bp k 0,cells i.zv,(by simp only [Bool.and_eq_true] at h1; exact h1.2),h,fun s' K' hs hK => ?_⟩
       unfold aRes
       simp only [hs,hl,h1]
       exact hK
    | buildSlice t n ps =>
     cases n with
     | succ n => exact h.elim
     | zero =>
     simp only at h
     cases hp : ps.toList with
     | cons _ _ => rw [hp] at h; exact h.elim
     | nil =>
     rw [hp] at h
     simp only at h
     cases hl : (look T t).bind fun i => i.sl with
     | none => rw [hl] at h; exact h.elim
     | some et =>
      rw [hl] at h
      simp only at h
      cases he : look T et with
      | none => rw [he] at h; exact h.elim
      | some e =>
       rw [he] at h
       simp only at h
       cases hs : e.sl with
       | some _ => rw [hs] at h; exact h.elim
       | none =>
        rw [hs] at h
        refine ⟨rfl,.ms k 0 0,[],rfl,h,fun s' K' hs' hK => ?_⟩
        unfold aRes
        simp only [hs',hp,hl,he,hs]
        exact hK
    | _ => exact h.elim
  | _ => rw [hk] at h; exact h.elim
theorem calm_step {HD : Tg -> List AV -> St -> (AV -> St -> Prop) -> Prop} (hH : HMakes HD) {fl : Oper -> Fl} {p : Nat -> Bool} {ops : Array Oper} {o : Oper} {s : St} {K : St -> Prop} (hh : (fl o).hs = false) (hky : (fl o).ky = none) (hc : calm (fl o) o.op = true)
  (hq : quietF (fl o) o.op = true ∨ turnsF (fl o) o.op = true) (h : stepA T gl HD H fl p ops o s K) :
  ∃ v hp1 nx1,K (put o.dst v ⟨s.tm,hp1,nx1⟩)∧(∀ k,Nat.blt k (fl o).lo = false -> HpEq (s.hp k) (hp1 k)) ∧
   ∀ k b,p k = false -> Nat.blt k (fl o).lo = false -> blB 0 b = true -> ∀ tm',(∀ t ∈ o.looksAt ops,tm' t = s.tm t) -> ∀ K' : St -> Prop,K' (put o.dst v ⟨tm',upd k b hp1,nx1⟩) -> stepA T gl HD H fl p ops o ⟨tm',upd k b s.hp,s.nx⟩ K':=by
 obtain ⟨v,hp1,nx1,h1,f⟩:=step_free hH hh hky hq h
 refine ⟨v,hp1,nx1,h1,?_⟩
 simp only [calm,Bool.or_eq_true,Bool.and_eq_true] at hc
 rcases hc with hc | ⟨hc,hl⟩ | hc
 ·have hqq : quietF (fl o) o.op = true:=by unfold quietF; simp [hc]
  obtain ⟨rfl,rfl⟩:=f.quiet hqq
  exact ⟨fun k _ => .inl rfl,fun k b _ _ _ tm' he K' hK => f.pure hc tm' _ _ he K' hK⟩
 ·have hqq : quietF (fl o) o.op = true:=by unfold quietF; simp [hc]
  obtain ⟨rfl,rfl⟩:=f.quiet hqq
  refine ⟨fun k _ => .inl rfl,fun k b hk _ _ tm' he K' hK => f.read hl hqq tm' _ _ he (fun j hj => ?_) K' hK⟩
  have : j ≠ k:=fun e => by subst e; rw [hk] at hj; cases hj
  rw [upd_ne this]; exact .inl rfl
 ·exact ⟨f.same hc,f.frame hc⟩
theorem put_put {d e : Option Nat} {u v : AV} {tm : Nat -> AV} {hp : Nat -> Option Blk} {nx : Nat} (h : ∀ a,d = some a -> e ≠ some a) :
  put d u ⟨(put e v ⟨tm,hp,nx⟩).tm,hp,nx⟩ = put e v ⟨(put d u ⟨tm,hp,nx⟩).tm,hp,nx⟩:=by
 cases d with
 | none => cases e <;> rfl
 | some d =>
  cases e with
  | none => rfl
  | some e =>
   have hne : e ≠ d:=fun x => h d rfl (by rw [x])
   simp only [put,St.mk.injEq,and_self,and_true]
   funext k
   by_cases e1 : k = d
   ·subst e1
    rw [show Nat.beq k k = true from Nat.beq_refl k,beq_ne (Ne.symm hne)]
    rfl
   ·rw [beq_ne e1]
    rfl
theorem put_hp (d : Option Nat) (v : AV) (s : St) : (put d v s).hp = s.hp∧(put d v s).nx = s.nx:=by cases d <;> exact ⟨rfl,rfl⟩
theorem put_tm2 (d : Option Nat) (v : AV) (tm : Nat -> AV) (hp hp' : Nat -> Option Blk) (nx nx' : Nat) : (put d v ⟨tm,hp,nx⟩).tm = (put d v ⟨tm,hp',nx'⟩).tm:=by cases d <;> rfl
theorem put_mk (d : Option Nat) (v : AV) (s : St) : put d v s = ⟨(put d v s).tm,s.hp,s.nx⟩:=by cases d <;> rfl
theorem calm_quiet {f : Fl} {op : Op} (hc : calm f op = true) (hn : f.old = true -> turnsF f op = true) : quietF f op = true ∨ turnsF f op = true:=by
 simp only [calm,Bool.or_eq_true,Bool.and_eq_true] at hc
 rcases hc with hc | ⟨hc,_⟩ | hc
 ·left; unfold quietF; simp [hc]
 ·left; unfold quietF; simp [hc]
 ·exact .inr (hn hc)
theorem swap {HD : Tg -> List AV -> St -> (AV -> St -> Prop) -> Prop} (hH : HMakes HD) {fl : Oper -> Fl} {p : Nat -> Bool} {ops : Array Oper} {x i : Oper} {s : St} {K : St -> Prop} (hold : ∀ o,(fl o).old = true -> turnsF (fl o) o.op = true) (hkp : ∀ o k,(fl o).ky = some k -> p k = false∧∀ o',Nat.blt k (fl o').lo = false) (hi : indep fl ops x i = true)
  (h : stepA T gl HD H fl p ops x s fun s1 => stepA T gl HD H fl p ops i s1 K) : stepA T gl HD H fl p ops i s fun s1 => stepA T gl HD H fl p ops x s1 K:=by
 simp only [indep,Bool.and_eq_true,Bool.not_eq_true'] at hi
 obtain ⟨⟨hap,hx,hii⟩,hk⟩:=hi
 obtain ⟨a1,a2,a3⟩:=Oper.apart_spec hap
 cases kx : (fl x).ky with
 | none =>
  cases ki : (fl i).ky with
  | none =>
   rw [kx,ki] at hk
   exact swap0 hH hap hx hii kx ki hk h
  | some k =>
   rw [kx,ki] at hk
   simp only at hk
   obtain ⟨hpk,hlo⟩:=hkp i k ki
   obtain ⟨v,hp1,nx1,h,hsame,hfr⟩:=calm_step hH hx kx hk (calm_quiet hk (hold x)) h
   have stepI : ∀ s K,stepA T gl HD H fl p ops i s K = aRes T k i s K:=fun s K => by unfold stepA; rw [ki]
   rw [stepI] at h ⊢
   obtain ⟨e1,vk,cs,hcs,h,hre⟩:=aRes_pick h
   rw [(put_hp _ _ _).1] at e1 h
   rw [(put_hp _ _ _).2] at h
   have es : s.hp k = some .res:=HpEq.res (e1 ▸ hsame k (hlo x))
   refine hre s _ es ?_
   rw [put_mk]
   refine hfr k (some (.box cs)) hpk (hlo x) hcs _ (put_looks' a3) K ?_
   have e:=put_put (d:=x.dst) (e:=i.dst) (u:=v) (v:=vk) (tm:=s.tm) (hp:=upd k (some (.box cs)) hp1) (nx:=nx1) (fun a ha hb => a2 a ha hb)
   rw [put_tm2 i.dst _ s.tm (upd k (some (.box cs)) s.hp) (upd k (some (.box cs)) hp1) s.nx nx1,e]
   rw [put_tm2 x.dst _ s.tm hp1 (upd k (some (.box cs)) hp1) nx1 nx1] at h
   exact h
 | some k =>
  have stepX : ∀ s K,stepA T gl HD H fl p ops x s K = aRes T k x s K:=fun s K => by unfold stepA; rw [kx]
  obtain ⟨hpk,hlo⟩:=hkp x k kx
  rw [stepX] at h
  simp only [stepX]
  obtain ⟨es,vk,cs,hcs,h,hre⟩:=aRes_pick h
  cases ki : (fl i).ky with
  | none =>
   rw [kx,ki] at hk
   simp only at hk
   obtain ⟨v,hp2,nx2,h,hsame,hfr⟩:=calm_step hH hii ki hk (calm_quiet hk (hold i)) h
   rw [(put_hp _ _ _).1] at hsame hfr
   rw [(put_hp _ _ _).2] at hfr
   have hbx : hp2 k = some (.box cs):=HpEq.box (by have:=hsame k (hlo i); simp only [upd_same] at this; exact this)
   have:=hfr k (some .res) hpk (hlo i) rfl s.tm (fun t ht => (put_looks' a1 t ht).symm) (fun s1 => aRes T k x s1 K)
   rw [upd_upd,upd_id es] at this
   refine this ?_
   refine hre _ K (by rw [(put_hp _ _ _).1]; simp only [upd_same]) ?_
   rw [(put_hp _ _ _).1,(put_hp _ _ _).2,upd_upd,upd_id hbx]
   have e:=put_put (d:=i.dst) (e:=x.dst) (u:=v) (v:=vk) (tm:=s.tm) (hp:=hp2) (nx:=nx2) (fun a ha hb => a2 a hb ha)
   rw [put_tm2 x.dst _ s.tm _ hp2 _ nx2,e] at h
   rw [put_tm2 i.dst _ s.tm (upd k (some .res) hp2) hp2 nx2 nx2]
   exact h
  | some j =>
   rw [kx,ki] at hk
   simp only at hk
   have hkj : k ≠ j:=fun e => by subst e; rw [show Nat.beq k k = true from Nat.beq_refl k] at hk; cases hk
   have stepI : ∀ s K,stepA T gl HD H fl p ops i s K = aRes T j i s K:=fun s K => by unfold stepA; rw [ki]
   rw [stepI] at h ⊢
   obtain ⟨e2,vj,cs2,_,h,hre2⟩:=aRes_pick h
   rw [(put_hp _ _ _).1] at e2 h
   rw [(put_hp _ _ _).2] at h
   simp only [upd_ne (Ne.symm hkj)] at e2
   refine hre2 s _ e2 ?_
   refine hre _ K (by rw [(put_hp _ _ _).1]; simp only [upd_ne hkj]; exact es) ?_
   rw [(put_hp _ _ _).1,(put_hp _ _ _).2,upd_comm hkj]
   have e:=put_put (d:=i.dst) (e:=x.dst) (u:=vj) (v:=vk) (tm:=s.tm) (hp:=upd j (some (.box cs2)) (upd k (some (.box cs)) s.hp)) (nx:=s.nx) (fun a ha hb => a2 a hb ha)
   rw [put_tm2 x.dst _ s.tm (upd k (some (.box cs)) s.hp) (upd j (some (.box cs2)) (upd k (some (.box cs)) s.hp)) s.nx s.nx,e] at h
   rw [put_tm2 i.dst _ s.tm (upd j (some (.box cs2)) s.hp) (upd j (some (.box cs2)) (upd k (some (.box cs)) s.hp)) s.nx s.nx]
   exact h
theorem stepA_sel {HD : Tg -> List AV -> St -> (AV -> St -> Prop) -> Prop} (hH : HMakes HD) {fl : Oper -> Fl} {p : Nat -> Bool} {ops : Array Oper} {x i : Oper} {s : St} {K : St -> Prop} (hold : ∀ o,(fl o).old = true -> turnsF (fl o) o.op = true) (hi : indep fl ops x i = true)
  (h : stepA T gl HD H fl p ops x s K) : ∃ s1,K s1∧∀ K' : St -> Prop,K' s1 -> stepA T gl HD H fl p ops x s K':=by
 simp only [indep,Bool.and_eq_true,Bool.not_eq_true'] at hi
 obtain ⟨⟨hap,hx,hii⟩,hk⟩:=hi
 cases kx : (fl x).ky with
 | some k =>
  have stepX : ∀ s K,stepA T gl HD H fl p ops x s K = aRes T k x s K:=fun s K => by unfold stepA; rw [kx]
  rw [stepX] at h
  simp only [stepX]
  obtain ⟨es,vk,cs,hcs,h,hre⟩:=aRes_pick h
  exact ⟨_,h,fun K' hK => hre s K' es hK⟩
 | none =>
  have hq : quietF (fl x) x.op = true ∨ turnsF (fl x) x.op = true:=by
   cases ki : (fl i).ky with
   | some k => rw [kx,ki] at hk; exact calm_quiet hk (hold x)
   | none =>
    rw [kx,ki] at hk
    simp only [indep0,Bool.and_eq_true,Bool.or_eq_true] at hk
    have hq : ∀ (f : Fl) (o : Op),(pureF f o = true ∨ readF f o = true) -> quietF f o = true:=fun f o h => by unfold quietF; rcases h with h | h <;> simp [h]
    rcases hk with (⟨e,_⟩ | ⟨e,_⟩ | ⟨e,_⟩) | ⟨⟨e,_⟩,_⟩ | ⟨⟨e,_⟩,_⟩
    ·exact .inl (hq _ _ e)
    ·exact .inl (hq _ _ (.inl e))
    ·exact .inr e
    ·exact .inl (hq _ _ (.inr e))
    ·exact .inr e
  obtain ⟨v,hp1,nx1,h,fx⟩:=step_free hH hx kx hq h
  exact ⟨_,h,fun K' hK => fx.tm s.tm (fun _ _ => rfl) _ hK⟩
theorem front {HD : Tg -> List AV -> St -> (AV -> St -> Prop) -> Prop} (hH : HMakes HD) {fl : Oper -> Fl} {p : Nat -> Bool} (hold : ∀ o,(fl o).old = true -> turnsF (fl o) o.op = true) (hkp : ∀ o k,(fl o).ky = some k -> p k = false∧∀ o',Nat.blt k (fl o').lo = false) {ops : Array Oper} {i : Oper} {l2 : List Oper} {K : St -> Prop} : ∀ (l1 : List Oper) (s : St),
  (∀ x ∈ l1,indep fl ops x i = true) -> aOps T gl HD H fl p ops (l1 ++ i :: l2) s K -> aOps T gl HD H fl p ops (i :: (l1 ++ l2)) s K
 | [],s,_,h => h
 | x :: l1,s,hi,h => by
   have hxi:=hi x (by simp)
   rw [List.cons_append,aOps_cons] at h
   rw [aOps_cons,List.cons_append]
   refine swap hH hold hkp hxi (K:=fun s' => aOps T gl HD H fl p ops (l1 ++ l2) s' K) ?_
   obtain ⟨s1,h,hre⟩:=stepA_sel hH hold hxi h
   refine hre _ ?_
   exact front hH hold hkp l1 _ (fun y hy => hi y (by simp [hy])) h
end
end Ab
