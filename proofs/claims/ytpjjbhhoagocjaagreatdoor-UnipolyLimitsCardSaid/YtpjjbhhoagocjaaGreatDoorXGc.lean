import Derived.Test.YtpjjbhhoagocjaaGreatDoorXDraw
import Derived.Test.YtpjjbhhoagocjaaGreatDoorXMap
import Derived.Test.YtpjjbhhoagocjaaGreatDoorXBld
import Derived.RangeFuncSeq
import Derived.Test.YtpjjbhhoagocjaaGreatDoorXQuiet
section
namespace Ab
open Go Go.RowKit
def Ret (c : Ctx) (F : Foot) (M : Nat -> Option MB) (w : World) (s : St) (K : AV -> St -> Prop) : Ending -> World -> Prop:=fun e w' =>
 ∃ v av s' F' M',e = .returned v∧s'.tm = s.tm∧HR c F' M' s'.hp s'.nx w'∧Tr F M w F' M' w'∧RepM w' F' M' av v∧K av s'
def Does (P : Program) (f : FuncId) (args : Array Value) (w : World) (R : Ending -> World -> Prop) : Prop :=
 (enters P f = true∧Calls P f args w R) ∨ ∃ v w',(callFunc f args).run P w = .ok (.value v) w'∧R (.returned v) w'
theorem Does.mono {P : Program} {f : FuncId} {args : Array Value} {w : World} {R R' : Ending -> World -> Prop} (h : Does P f args w R) (hR : ∀ e w',R e w' -> R' e w') : Does P f args w R':=by
 rcases h with ⟨h1,h2⟩ | ⟨v,w',h1,h2⟩
 ·exact .inl ⟨h1,Calls.mono h2 hR⟩
 ·exact .inr ⟨v,w',h1,hR _ _ h2⟩
theorem Does.calls {P : Program} {f : FuncId} {args : Array Value} {w : World} {R : Ending -> World -> Prop} (h : Does P f args w R) (he : enters P f = true) : Calls P f args w R:=by
 rcases h with ⟨_,h2⟩ | ⟨v,w',h1,h2⟩
 ·exact h2
 ·unfold enters at he
  cases hf : P.funcs[f]? with
  | none => rw [hf] at he; cases he
  | some fn =>
   rw [hf] at he
   simp only [Bool.and_eq_true,Bool.not_eq_true'] at he
   obtain ⟨bd,hb⟩:=Option.isSome_iff_exists.1 he.2
   have hn : fn.name ≠ "runtime.NumGoroutine" := by
    intro e; rw [e] at he; simp at he
   simp [callFunc,hf,hn,hb] at h1
def HSound (c : Ctx) (H : Tg -> List AV -> St -> (AV -> St -> Prop) -> Prop) : Prop :=
 ∀ (f : Tg) (args : List AV) (s : St) (K : AV -> St -> Prop) (F : Foot) (M : Nat -> Option MB) (w : World) (vals : List Value),H f args s K -> HR c F M s.hp s.nx w -> RepML w F M args vals ->
  match f with
  | .fn f => Does c.P f ⟨vals⟩ w (Ret c F M w s K)
  | .yl l => YieldAt Fence.wide 0 c.P l ⟨vals⟩ w (Ret c F M w s K)
section
variable {c : Ctx} {ro : Option Nat} {N : Nat} {F F' : Foot} {M M' : Nat -> Option MB} {s : St} {a : Act} {w w' : World} {o : Oper} {K : St -> Prop} {Q : Exit -> Act -> World -> Prop}
variable {H : Tg -> List AV -> St -> (AV -> St -> Prop) -> Prop}
theorem opndOk_lt {N : Nat} {x : Operand} (h : opndOk N x = true) : ∀ t,x = .tmp t -> t < N:=by
 intro t e; subst e
 simp only [opndOk,Nat.blt] at h
 exact Nat.le_of_ble_eq_true h
theorem run_call {P : Program} {f : FuncId} {xs caps : Array Value} {g : Operand} {args : Array Operand} {ts : Array TypeId} (ho : o.op = .call { callee:=.value g,args:=args,argTypes:=ts })
  (hg : a.eval g = .func (.func f) #[] caps) (hx : args.map a.eval = xs) (he : enters P f = true) :
  (execOp a.eval o).run P w = .ok (.enter f (xs ++ caps)) w:=by
 unfold enters at he
 cases hf : P.funcs[f]? with
 | none => rw [hf] at he; cases he
 | some fn =>
  rw [hf] at he
  simp only [Bool.and_eq_true,Bool.not_eq_true'] at he
  obtain ⟨bd,hb⟩:=Option.isSome_iff_exists.1 he.2
  have hn : fn.name ≠ "runtime.NumGoroutine" := by
   intro e; rw [e] at he; simp at he
  simp [execOp,ho,resolve,hg,Deferred.ofValue,hx,invoke,callFunc,hf,hn,hb]
theorem run_callYield {P : Program} {l : Nat} {xs : Array Value} {g : Operand} {args : Array Operand} {ts : Array TypeId} {r : Result Next} (ho : o.op = .call { callee:=.value g,args:=args,argTypes:=ts })
  (hg : a.eval g = .func (.yield l) #[] #[]) (hx : args.map a.eval = xs) (he : (Instr.yield l xs).run P w = r) :
  (execOp a.eval o).run P w = r:=by
 simp [execOp,ho,resolve,hg,Deferred.ofValue,hx,invoke,he]
theorem op_call {g : Operand} {args : Array Operand} {ts : Array TypeId} (ho : o.op = .call { callee:=.value g,args:=args,argTypes:=ts }) (hH : HSound c H) (h : Rel c N F M s a w) (hd : ∀ t,o.dst = some t -> t < N)
  (hg : ∀ t,g = .tmp t -> t < N) (hx : ∀ x ∈ args.toList,∀ t,x = .tmp t -> t < N)
  (hK : match ev c.gl s g with
   | .fn f cap => forceL (evs c.gl s args.toList) fun vs => H (.fn f) (appL vs cap) s fun v s' => K (Ab.put o.dst v s')
   | .yl l => forceL (evs c.gl s args.toList) fun vs => H (.yl l) vs s fun v s' => K (Ab.put o.dst v s')
   | _ => False) : o.wpIn (Fw ro) 0 c.P a w (Post c N F M w K) Q:=by
 have hg':=h.ev g hg
 have hx':=h.evs args.toList hx
 generalize ev c.gl s g = ag at hg' hK
 have fin : ∀ v w',Ret c F M w s (fun v s' => K (Ab.put o.dst v s')) (.returned v) w' -> Post c N F M w K (a.put o.dst v) w':=by
  rintro v w' ⟨v',av,s',F',M',e,t1,t2,t3,t4,t5⟩
  cases e
  refine ⟨_,F',M',?_,t3,t5⟩
  have hr : Rel c N F' M' s' a w':=⟨t2,fun k hk => by rw [t1]; exact (h.tm k hk).tr t3,h.df.tr t3,h.sz⟩
  exact hr.put hd t4
 cases ag with
 | fn f cap =>
  simp only [forceL_eq,appL_eq] at hK
  unfold RepM at hg'
  obtain ⟨caps,h1,h2⟩:=hg'
  have hdo:=hH (.fn f) _ s _ F M w _ hK h.toHR (hx'.app h2)
  have e1 : (⟨args.toList.map a.eval ++ caps⟩ : Array Value) = args.map a.eval ++ ⟨caps⟩:=by apply Array.ext'; simp
  rw [e1] at hdo
  rcases hdo with ⟨he,hc⟩ | ⟨v,w',hr,hret⟩
  rotate_left
  ·refine ⟨fun _ _ => trivial,?_⟩
   have hrun : (execOp a.eval o).run c.P w = .ok (.value v) w':=by
    rw [<- hr]
    simp [execOp,ho,resolve,h1,Deferred.ofValue,invoke]
   rw [sem_run hrun (by simp)]
   exact fin v w' hret
  refine ⟨fun _ _ => trivial,?_⟩
  rw [sem_run (run_call ho h1 rfl he) (by simp)]
  refine ⟨fun _ => by simp_all [Fw],?_⟩
  have hc' : CallsIn Fence.wide 0 c.P f (args.map a.eval ++ ⟨caps⟩) w _:=callsIn_wide.2 hc
  have hc2 : CallsIn (Fw ro) 0 c.P f (args.map a.eval ++ ⟨caps⟩) w _:=hc'
  refine CallsIn.mono hc2 fun e w' hh => ?_
  obtain ⟨v,av,s',F',M',rfl,hh⟩:=hh
  exact fin v w' ⟨v,av,s',F',M',rfl,hh⟩
 | yl l =>
  simp only [forceL_eq] at hK
  unfold RepM at hg'
  obtain ⟨fn,tmps,assign,body,hy,hr⟩:=hH (.yl l) _ s _ F M w _ hK h.toHR hx'
  have e1 : (⟨args.toList.map a.eval⟩ : Array Value) = args.map a.eval:=by apply Array.ext'; simp
  rw [e1] at hy
  refine ⟨fun _ _ => trivial,?_⟩
  rw [sem_run (run_callYield ho hg' rfl hy) (by simp)]
  refine ⟨fun _ => by simp_all [Fw],?_⟩
  have hr2 : RoundIn (Fw ro) 0 c.P l fn tmps assign body w _:=hr
  refine RoundIn.mono hr2 fun e w' hh => ?_
  obtain ⟨v,av,s',F',M',rfl,hh⟩:=hh
  exact fin v w' ⟨v,av,s',F',M',rfl,hh⟩
 | _ => exact hK.elim
theorem aOp_sound {lim : Option (Nat -> Bool)} (hT : TOk c.P c.T) (hH : HSound c H) (hok : opOk c.P N o = true) (h : Rel c N F M s a w) (hK : aOp c.T c.gl H lim o s K) : o.wpIn (Fw ro) 0 c.P a w (Post c N F M w K) Q:=by
 have hd : ∀ t,o.dst = some t -> t < N:=by
  intro t e
  simp only [opOk,Bool.and_eq_true,e] at hok
  exact Nat.le_of_ble_eq_true hok.1.1
 have hop : ∀ x ∈ o.op.operands.toList,∀ t,x = .tmp t -> t < N:=by
  intro x hx
  simp only [opOk,Bool.and_eq_true] at hok
  exact opndOk_lt (List.all_eq_true.1 hok.1.2 x hx)
 obtain ⟨dst,op,type,pos,after,guard⟩:=o
 simp only at hd hop
 cases op with
 | move x => exact op_move (.inl rfl) h hd (hop x (by simp [Op.operands])) hK
 | assign x => exact op_move (.inr rfl) h hd (hop x (by simp [Op.operands])) hK
 | pick x y z => exact op_pick rfl h hd (hop x (by simp [Op.operands])) (hop y (by simp [Op.operands])) (hop z (by simp [Op.operands])) hK
 | alloc e => exact op_alloc rfl hT h hd hK
 | box e x => exact op_box rfl h hd (hop x (by simp [Op.operands])) hK
 | build t ps => exact op_build rfl hT h hd (fun p hp => hop p.2 (by simp [Op.operands]; exact ⟨p.1,by simpa using hp⟩)) hK
 | buildSlice t n ps => exact op_buildSlice rfl hT h hd (fun p hp => hop p.2 (by simp [Op.operands]; exact ⟨p.1,by simpa using hp⟩)) hK
 | load t x => exact op_load rfl hT h hd (hop x (by simp [Op.operands])) hK
 | store t x y => exact op_store rfl hT h hd (hop x (by simp [Op.operands])) (hop y (by simp [Op.operands])) hK
 | nilCheck x => exact op_nilCheck rfl h hd (hop x (by simp [Op.operands])) hK
 | binOp op t x y u => exact op_bin rfl h hd (hop x (by simp [Op.operands])) (hop y (by simp [Op.operands])) hT hK
 | unOp op t x => exact op_un rfl h hd (hop x (by simp [Op.operands])) hK
 | convert t u x =>
  refine op_convert rfl hT ?_ h hd (hop x (by simp [Op.operands])) hK
  simp only [opOk,Bool.and_eq_true] at hok
  exact hok.2
 | makeFunc fn first cap =>
  cases fn with
  | func f =>
   obtain ⟨first⟩:=first
   cases first with
   | nil => exact op_makeFunc rfl h hd (fun x hx => hop x (by simp [Op.operands]; simpa using hx)) hK
   | cons _ _ => exact hK.elim
  | _ => exact hK.elim
 | makeSlice t x y => exact op_makeSlice rfl hT h hd (hop x (by simp [Op.operands])) (hop y (by simp [Op.operands])) hK
 | slice t x lo hi mx =>
  cases mx with
  | none => exact op_slice rfl hT h hd (hop x (by simp [Op.operands])) (fun y hy => hop y (by subst hy; simp [Op.operands])) (fun y hy => hop y (by subst hy; simp [Op.operands])) hK
  | some _ => exact hK.elim
 | fieldAddr t x f => exact op_fieldAddr rfl hT h hd (hop x (by simp [Op.operands])) hK
 | indexAddr t x y => exact op_indexAddr rfl hT h hd (hop x (by simp [Op.operands])) (hop y (by simp [Op.operands])) hK
 | index t x y => exact op_indexU rfl hT h hd (hop x (by simp [Op.operands])) (hop y (by simp [Op.operands])) hK
 | field t x f => exact op_field rfl hT h hd (hop x (by simp [Op.operands])) hK
 | extract x i => exact op_extract rfl h hd (hop x (by simp [Op.operands])) hK
 | typeAssert x xt t ok =>
  cases ok with
  | false => exact hK.elim
  | true =>
   have hx:=h.ev x (hop x (by simp [Op.operands]))
   simp only [aOp] at hK
   split at hK
   ·rename_i t' v hev
    rw [hev] at hx
    unfold RepM at hx
    split at hK
    ·rename_i i hi
     split at hK
     ·rename_i hb
      simp only [Bool.and_eq_true] at hb
      have ht:=Nat.eq_of_beq_eq_true hb.2
      subst ht
      obtain ⟨ti,d,z,_,hu,_,_,_,_,_,hag,_⟩:=hT.parts hi
      refine wp_pure h hd (v:=.tuple #[v,.bool true]) ?_ ?_ hK
      ·have hrun : (Go.underlying t').run c.P w = .ok d w:=by simp [Go.underlying,hu]
       simp only [execOp,hx,Instr.typeAssert,Sem.run_bind,hrun,Result.andThen]
       rcases hag hb.1 with ⟨fs,rfl⟩ | ⟨n,e,rfl⟩ <;> simp
      ·unfold RepM
       refine ⟨[v,.bool true],rfl,?_⟩
       unfold RepML
       refine ⟨_,_,rfl,evOfV v,?_⟩
       unfold RepML
       refine ⟨_,_,rfl,?_,?_⟩
       ·unfold RepM; rfl
       ·unfold RepML; rfl
     ·exact hK.elim
    ·exact hK.elim
   ·exact hK.elim
 | call cl =>
  obtain ⟨callee,args,ts⟩:=cl
  have hargs : ∀ x ∈ args.toList,∀ t,x = .tmp t -> t < N:=fun x hx => hop x (by cases callee <;> simp [Op.operands,Call.operands] <;> (try right) <;> simpa using hx)
  cases callee with
  | value g => exact op_call rfl hH h hd (hop g (by simp [Op.operands,Call.operands])) hargs hK
  | invoke _ _ => exact hK.elim
  | builtin b =>
   obtain ⟨args⟩:=args
   obtain ⟨ts⟩:=ts
   cases b with
   | len =>
    match args,ts,hK with
    | [x],[t],hK =>
     simp only [aOp,evs] at hK
     cases he : (look c.T t).bind fun i => i.sl with
     | none => rw [he] at hK; exact hK.elim
     | some e =>
      rw [he] at hK
      refine op_len rfl rfl rfl hT he h hd (hargs x (by simp)) (fun q hq => ?_) hK
      rw [hq] at hK; exact hK.elim
   | append =>
    match args,ts,hK with
    | [x,y],[t,u],hK =>
     simp only [aOp,evs] at hK
     cases he : Nat.beq t u with
     | false => rw [he] at hK; exact hK.elim
     | true =>
      rw [he] at hK
      have:=Nat.eq_of_beq_eq_true he
      subst this
      exact op_append rfl rfl rfl hT h hd (hargs x (by simp)) (hargs y (by simp)) hK
   | copy =>
    match args,ts,hK with
    | [x,y],[t,u],hK => exact op_copy rfl rfl rfl hT h hd (hargs x (by simp)) (hargs y (by simp)) hK
   | min => exact op_minmax (mx:=false) rfl h hd hargs (by
     match args,ts,hK with
     | [],_,hK => exact hK
     | [_],_,hK => exact hK
     | _ :: _ :: _,_,hK => exact hK)
   | max => exact op_minmax (mx:=true) rfl h hd hargs (by
     match args,ts,hK with
     | [],_,hK => exact hK
     | [_],_,hK => exact hK
     | _ :: _ :: _,_,hK => exact hK)
   | _ => exact hK.elim
 | _ => exact hK.elim
theorem Rel.of_le (h : Rel c N F M s a w) {s0 : St} (hl : Le s0 s) : Rel c N F M s0 a w:=by
 refine ⟨?_,fun t ht => ?_,h.df,h.sz⟩
 ·have:=h.toHR.weaken hl.hp
  exact ⟨this.box,this.arr,this.own,this.inj,fun k hk => this.dom k (Nat.le_trans hl.nx hk),this.fl,this.hist,this.gl,this.bel,this.ml,this.al,this.base,this.res,this.mp⟩
 ·rcases hl.tm t with e | e
  ·rw [e]; unfold RepM; trivial
  ·rw [e]; exact h.tm t ht
theorem Rel.setBool (h : Rel c N F M s a w) {d : Nat} {b : Bool} (hb : s.tm d = .bool b) : Rel c N F M (Ab.put (some d) (.bool b) s) a w:=by
 refine ⟨h.toHR,fun t ht => ?_,h.df,h.sz⟩
 simp only [Ab.put]
 by_cases e : t = d
 ·subst e
  have:=h.tm t ht
  rw [hb] at this
  simpa using this
 ·rw [beq_ne e]; exact h.tm t ht
theorem Oper.wp_post {P : Program} {F0 : Foot} {M0 : Nat -> Option MB} {w0 : World} (t : Tr F0 M0 w0 F M w) (h : o.wpIn (Fw ro) 0 P a w (Post c N F M w K) Q) {C : Act -> World -> Prop}
  (hC : ∀ s' F' M' a' w',Rel c N F' M' s' a' w' -> Tr F0 M0 w0 F' M' w' -> K s' -> C a' w') : o.wpIn (Fw ro) 0 P a w C Q :=
 Oper.wpIn_mono (fun a' w' ⟨s',F',M',r,t',k⟩ => hC s' F' M' a' w' r (t.trans t') k) h
theorem wanted_none {ops : Array Oper} {tmps : Array Value} (h : o.guard = none) : Region.wanted o (yielded ops tmps) = true:=by
 simp [Region.wanted,h]
theorem aOpO_out {T : List (Nat × TyI)} {gl : List (Nat × AV)} {HH HE : Tg -> List AV -> St -> (AV -> St -> Prop) -> Prop} {lim : Option (Nat -> Bool)} {o : Oper} {old : Bool} {lo : Nat} {p : Nat -> Bool} {s : St} {K : St -> Prop} (hdm : ∀ k,s.nx <= k -> s.hp k = none) (h : aOpO T gl old lo p HH HE lim o s K) : aOp T gl HH lim o s K ∨ aOp T gl HE lim o s K:=by
 obtain ⟨dst,op,type,pos,after,guard⟩:=o
 unfold aOpO at h
 cases old with
 | false => exact .inl h
 | true =>
  simp only at h
  split at h
  ·rename_i f args ts
   cases hg : ev gl s f with
   | fn g cap =>
    rw [hg] at h
    simp only at h
    split at h
    ·split at h
     ·exact .inl h
     ·obtain ⟨h0,r,ch,_,h1,h2⟩:=h
      right
      unfold aOp
      simp only [hg,forceL_eq]
      exact h2 s.tm s.hp (fun _ _ => rfl) h0 hdm (fun v s' => K (put dst v s')) h1
    ·exact h.elim
   | _ => rw [hg] at h; exact h.elim
  ·exact h.elim
theorem aSp_sound (hT : TOk c.P c.T) (hok : opOk c.P N o = true) (hsp : spOp c.T o.op = true) (h : Rel c N F M s a w) (hK : aSp c.T c.gl o s K) : o.wpIn (Fw ro) 0 c.P a w (Post c N F M w K) Q:=by
 have hd : ∀ t,o.dst = some t -> t < N:=by
  intro t e
  simp only [opOk,Bool.and_eq_true,e] at hok
  exact Nat.le_of_ble_eq_true hok.1.1
 have hop : ∀ x ∈ o.op.operands.toList,∀ t,x = .tmp t -> t < N:=by
  intro x hx
  simp only [opOk,Bool.and_eq_true] at hok
  exact opndOk_lt (List.all_eq_true.1 hok.1.2 x hx)
 obtain ⟨dst,op,type,pos,after,guard⟩:=o
 simp only at hd hop hsp
 unfold aSp at hK
 cases op with
 | makeMap t r =>
  cases r with
  | none =>
   simp only at hK
   split at hK
   ·exact op_makeMap rfl h hd hK
   ·exact hK.elim
  | some _ => exact hK.elim
 | lookup t m x ok => exact op_lookup rfl hT h hd (hop m (by simp [Op.operands])) (hop x (by simp [Op.operands])) hK
 | mapUpdate t m x y =>
  simp only [force_eq] at hK
  exact op_mapSet rfl hT h hd (hop m (by simp [Op.operands])) (hop x (by simp [Op.operands])) (hop y (by simp [Op.operands])) hK
 | call cl =>
  obtain ⟨callee,args,ts⟩:=cl
  cases callee with
  | builtin b =>
   cases b with
   | len =>
    simp only [spOp] at hsp
    obtain ⟨args⟩:=args
    obtain ⟨ts⟩:=ts
    match ts,hsp with
    | [t],hsp =>
     match args,hK with
     | [],hK => exact hK.elim
     | [x],hK =>
      have hK : aLenS c.T t (ev c.gl s x) s fun v => K (Ab.put dst v s):=hK
      simp only at hsp
      unfold aLenS at hK
      cases hz : (look c.T t).bind fun i => i.mp with
      | some z =>
       rw [hz] at hK
       exact op_mapLen rfl rfl rfl hT hz h hd (hop x (by simp [Op.operands,Call.operands])) hK
      | none =>
       rw [hz] at hK hsp
       simp only at hK hsp
       cases hu : look c.T t with
       | none => simp [hu] at hsp
       | some iu =>
        have hst : iu.st = true:=by simpa [hu] using hsp
        cases he : ev c.gl s x with
        | str b =>
         rw [he] at hK
         exact op_strLen (st_str hT hu hst) rfl rfl rfl h hd (hop x (by simp [Op.operands,Call.operands])) he hK
        | _ => rw [he] at hK; exact hK.elim
     | _ :: _ :: _,hK => exact hK.elim
   | append =>
    obtain ⟨args⟩:=args
    obtain ⟨ts⟩:=ts
    simp only [spOp] at hsp
    match ts,hsp with
    | [t,u],hsp =>
     cases hu : look c.T u with
     | none => simp [hu] at hsp
     | some iu =>
      have hst : iu.st = true:=by simpa [hu] using hsp
      match args,hK with
      | [],hK => exact hK.elim
      | [_],hK => exact hK.elim
      | [x,y],hK => exact op_appStr rfl rfl rfl hT hu hst h hd (hop x (by simp [Op.operands,Call.operands])) (hop y (by simp [Op.operands,Call.operands])) hK
      | _ :: _ :: _ :: _,hK => exact hK.elim
   | _ => exact hK.elim
  | _ => exact hK.elim
 | alloc e => exact op_allocT rfl hT h hd hK
 | convert t d x =>
  simp only at hK
  cases hl : look c.T d with
  | none => rw [hl] at hK; exact hK.elim
  | some i =>
   rw [hl] at hK
   simp only at hK
   cases hs : i.st with
   | true => rw [hs] at hK; exact op_strM rfl hT h hd (hop x (by simp [Op.operands])) hK
   | false => rw [hs] at hK; exact op_convP rfl hT h hd (hop x (by simp [Op.operands])) hK
 | binOp op t x y u =>
  cases op with
  | add => exact op_strAdd rfl h hd (hop x (by simp [Op.operands])) (hop y (by simp [Op.operands])) hK
  | eql => exact op_ptrEq (ng:=false) rfl hT h hd (hop x (by simp [Op.operands])) (hop y (by simp [Op.operands])) hK
  | neq => exact op_ptrEq (ng:=true) rfl hT h hd (hop x (by simp [Op.operands])) (hop y (by simp [Op.operands])) hK
  | _ => exact hK.elim
 | slice t x lo hi mx =>
  cases mx with
  | some _ => exact hK.elim
  | none =>
   simp only [spOp] at hsp
   cases hu : look c.T t with
   | none => simp [hu] at hsp
   | some i =>
    have hst : i.st = true:=by simpa [hu] using hsp
    exact op_strCut rfl hT hu hst h hd (hop x (by simp [Op.operands])) (fun y e => hop y (by subst e; simp [Op.operands])) (fun y e => hop y (by subst e; simp [Op.operands])) hK
 | _ => exact hK.elim
theorem op_fz (hT : TOk c.P c.T) (hok : opOk c.P N o = true) (h : Rel c N F M s a w) (hK : aFz c.T c.gl o s K) : o.wpIn (Fw ro) 0 c.P a w (Post c N F M w K) Q:=by
 have hd : ∀ t,o.dst = some t -> t < N:=by
  intro t e
  simp only [opOk,Bool.and_eq_true,e] at hok
  exact Nat.le_of_ble_eq_true hok.1.1
 have hop : ∀ x ∈ o.op.operands.toList,∀ t,x = .tmp t -> t < N:=by
  intro x hx
  simp only [opOk,Bool.and_eq_true] at hok
  exact opndOk_lt (List.all_eq_true.1 hok.1.2 x hx)
 have ho0 : ∃ op,o.op = op:=⟨_,rfl⟩
 obtain ⟨op,ho⟩:=ho0
 unfold aFz at hK
 rw [ho] at hK
 cases op with
 | buildSlice t n ps =>
  have hx : ∀ p ∈ ps.toList,∀ t,p.2 = .tmp t -> t < N:=fun p hp => hop p.2 (by rw [ho]; simp [Op.operands]; exact ⟨p.1,by simpa using hp⟩)
  simp only at hK
  cases hsl : (look c.T t).bind fun i => i.sl with
  | none => rw [hsl] at hK; exact hK.elim
  | some et =>
   rw [hsl] at hK
   simp only at hK
   cases he : look c.T et with
   | none => rw [he] at hK; exact hK.elim
   | some e =>
    rw [he] at hK
    simp only at hK
    obtain ⟨et',ti,z,hu,hi,hz,hsz,hby,hzv,hzs⟩:=hT.elem (t:=t) (e:=e) (by rw [hsl]; exact he)
    have : et' = et:=by
     cases hl : look c.T t with
     | none => simp [hl] at hsl
     | some i =>
      obtain ⟨_,d,_,_,hu',_,_,_,_,hsl',_⟩:=hT.parts hl
      rw [hl] at hsl
      rw [hsl' et hsl] at hu'
      rw [hu'] at hu; cases hu; rfl
    subst this
    cases hesl : e.sl with
    | some est => rw [hesl] at hK; exact hK.elim
    | none =>
     rw [hesl] at hK
     simp only at hK
     rw [hzv] at hK
     have h0 : Rel c N F M ⟨s.tm,fun _ => none,s.nx⟩ a w:=⟨h.toHR.weaken (fun _ => .inl rfl),h.tm,h.df,h.sz⟩
     obtain ⟨row,r1,r2,r3,hK⟩:=zero_row h0.toHR hK
     rw [lenL_eq] at hK
     cases hb : and (and (Nat.ble 1 e.sz) (Nat.beq row.length e.sz)) (Nat.ble (n * e.sz) 65536) with
     | false => rw [hb] at hK; exact hK.elim
     | true =>
      rw [hb] at hK
      simp only [Bool.and_eq_true] at hb
      have b1:=Nat.le_of_ble_eq_true hb.1.1
      have b2:=Nat.eq_of_beq_eq_true hb.1.2
      have b3:=Nat.le_of_ble_eq_true hb.2
      simp only at hK
      rw [show evParts c.gl s ps.toList = evParts c.gl ⟨s.tm,fun _ => none,s.nx⟩ ps.toList from evParts_eq ps.toList fun q _ => by cases q.2 <;> rfl] at hK
      have nof : ∀ b,frzF (keysP (evParts c.gl ⟨s.tm,fun _ => none,s.nx⟩ ps.toList)) (fun _ => none) M F b -> F b:=fun b hb => by
       rcases hb with hb | ⟨_,_,_,_,_,_,hb,_⟩
       ·exact hb
       ·cases hb
      have hrep:=repl_rep r1 b2 (by omega) n
      have hrep' : RepDL w (frzF (keysP (evParts c.gl ⟨s.tm,fun _ => none,s.nx⟩ ps.toList)) (fun _ => none) M F) _ _:=RepDL.mono (fun b hb => .inl hb) (fun _ _ => rfl) _ _ hrep
      obtain ⟨rows',cur',k1,k2,k3,k4,k5,k6⟩:=fill_rows (ks:=keysP (evParts c.gl ⟨s.tm,fun _ => none,s.nx⟩ ps.toList)) (sz:=e.sz) ps.toList (List.replicate n row) (madeCells z.cells (n * e.sz)) hx h0 (fun k hk => hk)
       (fun q hq => by rw [List.eq_of_mem_replicate hq]; exact b2) hrep' (fun x hx => by
        rw [List.mem_flatten] at hx
        obtain ⟨l,hl,hx⟩:=hx
        rw [List.eq_of_mem_replicate hl] at hx
        exact r2 x hx) hK
      have hlen : rows'.length = n:=by rw [k3]; simp
      have hcl : cur'.toList.length = n * e.sz:=by rw [RepDL.len _ _ k4,flat_len rows' k2,hlen]
      have hnm : n <= maxLen:=by
       have : n <= n * e.sz:=Nat.le_mul_of_pos_right _ (by omega)
       simp only [maxLen]; omega
      let w':=w.alloc (.cells ⟨cur'.toList⟩ et')
      let F' : Foot:=fun b => F b ∨ b = w.heap.size
      obtain ⟨g1,g2⟩:=h.toHR.keep (w':=w') (F':=F') (fun b hb => alloc_heap _ b hb) (fun b hb => .inl hb) (fun b hb => hb.imp id fun e => by omega)
       (fun b hb => by
        have : w'.heap.size = w.heap.size + 1:=by simp [w']
        rcases hb with hb | hb
        ·have:=h.fl b hb; omega
        ·omega) (h.bel.alloc h.bel.size _)
      refine wp_next h hd g1 g2 (v:=.slice (some ⟨w.heap.size,0,none⟩) n n) ?_ ?_ k6
      ·have hs : (Go.sizeOf et').run c.P w = .ok e.sz w:=by simp [Go.sizeOf,typeInfo,hi,hsz]
       have hzr : (zeroValue et').run c.P w = .ok z w:=by simp [zeroValue,typeInfo,hi,hz]
       by_cases h0 : n * e.sz = 0
       ·have hm0 : madeCells z.cells (n * e.sz) = #[]:=by rw [h0]; simp [madeCells]
        rw [hm0] at k1
        have hn0 : n = 0:=by
         rcases Nat.mul_eq_zero.1 h0 with h | h
         ·exact h
         ·omega
        subst hn0
        simp [execOp,ho,Instr.buildSlice,run_underlying hu,hs,k1,newRow,Array.range_zero',w']
       ·have k1':=k1
        unfold madeCells at k1'
        simp [execOp,ho,Instr.buildSlice,run_underlying hu,hs,h0,hzr,Nat.not_lt.2 (show n * e.sz <= 16777216 by omega),k1',newRow,w']
      ·unfold RepM RepD
       refine ⟨_,n,by rw [hlen],by omega,hnm,.inr ⟨w.heap.size,0,e.sz,rfl,.inr rfl,?_⟩⟩
       refine RepR_flat rows' cur'.toList 0 k2 (RepDL.mono (fun b hb => .inl (nof b hb)) (fun b hb => ?_) _ _ k4) k5 fun j v hj => ?_
       ·exact alloc_heap _ b (h.fl b (nof b hb))
       ·exact alloc_cell cur'.toList et' j v hj
 | _ => exact hK.elim
theorem aOpS_sound {HH HE : Tg -> List AV -> St -> (AV -> St -> Prop) -> Prop} {lim : Option (Nat -> Bool)} {hs old : Bool} {lo : Nat} {p : Nat -> Bool} (hT : TOk c.P c.T) (hH : HSound c HH) (hE : HSound c HE) (hok : opOk c.P N o = true) (h : Rel c N F M s a w) (hK : aOpS c.T c.gl hs old lo p HH HE lim o s K) : o.wpIn (Fw ro) 0 c.P a w (Post c N F M w K) Q:=by
 unfold aOpS at hK
 cases hb : and hs (spOp c.T o.op) with
 | true =>
  rw [hb] at hK
  exact aSp_sound hT hok (Bool.and_eq_true_iff.1 hb).2 h hK
 | false =>
  rw [hb] at hK
  rcases aOpO_out (fun k hk => (h.dom k hk).2) hK with hK | hK
  ·exact aOp_sound hT hH hok h hK
  ·exact aOp_sound hT hE hok h hK
theorem op_res {P : Program} {k : Nat} (hT : TOk P c.T) (h : Rel c N F M s a w) (hd : ∀ t,o.dst = some t -> t < N) (hK : aRes c.T k o s K) :
  o.guard = none∧o.wpIn (Fw ro) 0 P a w (Post c N F M w K) Q:=by
 unfold aRes at hK
 cases hk : s.hp k with
 | none => rw [hk] at hK; exact hK.elim
 | some b =>
  cases b with
  | res =>
   rw [hk] at hK
   cases hg : o.guard with
   | some g => rw [hg] at hK; exact hK.elim
   | none =>
    rw [hg] at hK
    refine ⟨rfl,?_⟩
    cases ho : o.op with
    | alloc e =>
     rw [ho] at hK
     simp only at hK
     cases hl : look c.T e with
     | none => rw [hl] at hK; exact hK.elim
     | some i =>
      rw [hl] at hK
      simp only at hK
      obtain ⟨ti,d,z,hi,hu,hz,_,_,hzv,_⟩:=hT.parts hl
      cases h1 : and (ones (cells i.zv)) (bls 0 (cells i.zv)) with
      | false => rw [h1] at hK; exact hK.elim
      | true =>
       rw [h1] at hK
       simp only [Bool.and_eq_true] at h1
       replace h1:=h1.1
       rw [hzv] at h1
       simp only [hzv] at hK
       have hc:=cells_rep (w:=w) (F:=F) (M:=M) h1 (evOfV z)
       have key:=h.toHR.fill (w':=w.alloc (.cells ⟨z.cells.toList⟩ e)) hk (m:=⟨w.heap.size,1,z.cells.toList.length,e⟩) (blk:=.box (cells (ofV z))) (fun b hb => alloc_heap _ b hb) (by simp) (Nat.le_refl _)
        (h.bel.alloc h.bel.size _) (alloc_own (by simp)) fun t => ⟨⟨rfl,(RepML.len _ _ hc.1).symm⟩,RepMC_new _ _ 0 (hc.1.tr t) h1 fun j v hj => alloc_cell _ e j v hj⟩
       refine wp_next h hd key.1 key.2 (v:=.pointer (some ⟨w.heap.size,0,none⟩)) ?_ ?_ hK
       ·simp [execOp,ho,Instr.alloc,zeroValue,typeInfo,hi,hz,newVar,newRow]
       ·unfold RepM; exact ⟨_,if_pos rfl,rfl⟩
    | buildSlice t n ps =>
     rw [ho] at hK
     cases n with
     | succ n => exact hK.elim
     | zero =>
     simp only at hK
     cases hp : ps.toList with
     | cons _ _ => rw [hp] at hK; exact hK.elim
     | nil =>
     rw [hp] at hK
     simp only at hK
     have hps : ps = #[]:=by cases ps; simp at hp; rw [hp]
     subst hps
     cases hsl : (look c.T t).bind fun i => i.sl with
     | none => rw [hsl] at hK; exact hK.elim
     | some et =>
      rw [hsl] at hK
      simp only at hK
      cases he : look c.T et with
      | none => rw [he] at hK; exact hK.elim
      | some e =>
       rw [he] at hK
       simp only at hK
       obtain ⟨et',ti,z,hu,hi,hz,hsz,hby,hzv,hzs⟩:=hT.elem (t:=t) (e:=e) (by rw [hsl]; exact he)
       have : et' = et:=by
        cases hl : look c.T t with
        | none => simp [hl] at hsl
        | some i =>
         obtain ⟨_,d,_,_,hu',_,_,_,_,hsl',_⟩:=hT.parts hl
         rw [hl] at hsl
         rw [hsl' et hsl] at hu'
         rw [hu'] at hu; cases hu; rfl
       subst this
       cases hesl : e.sl with
       | some _ => rw [hesl] at hK; exact hK.elim
       | none =>
        rw [hesl] at hK
        have key:=h.toHR.fill (w':=w.alloc (.cells ⟨[]⟩ et')) hk (m:=⟨w.heap.size,1,0,et'⟩) (blk:=.box []) (fun b hb => alloc_heap _ b hb) (by simp) (Nat.le_refl _)
         (h.bel.alloc h.bel.size _) (alloc_own (by simp)) fun t => ⟨⟨rfl,rfl⟩,by unfold RepMC; trivial⟩
        refine wp_next h hd key.1 key.2 (v:=.slice (some ⟨w.heap.size,0,none⟩) 0 0) ?_ ?_ hK
        ·have hs : (Go.sizeOf et').run P w = .ok e.sz w:=by simp [Go.sizeOf,typeInfo,hi,hsz]
         simp [execOp,ho,Instr.buildSlice,run_underlying hu,hs,newRow,Instr.fill,Array.range_zero']
        ·unfold RepM; exact ⟨_,if_pos rfl,.inl ⟨by simp,by simp⟩⟩
    | _ => rw [ho] at hK; exact hK.elim
  | _ => rw [hk] at hK; exact hK.elim
theorem young_out {gl : List (Nat × AV)} {op : Op} {chk : Bool} {p : Nat -> Bool} {s : St} {X : Prop} (h : young gl chk p op s X) : X:=(young_turn h).1
theorem step_sound {HD : Tg -> List AV -> St -> (AV -> St -> Prop) -> Prop} (hT : TOk c.P c.T) (hHD : HSound c HD) (hH : HSound c H) {fl : Oper -> Fl} {p : Nat -> Bool} {ops : Array Oper} (hok : ops.toList.all (opOk c.P N) = true) {F0 : Foot} {M0 : Nat -> Option MB} {w0 : World} {C : Act -> World -> Prop}
  {i : Nat} {o : Oper} (hget : ops[i]? = some o) {s : St} {F : Foot} {M : Nat -> Option MB} {a : Act} {w : World} (hK : stepA c.T c.gl HD H fl p ops o s K) (h : Rel c N F M s a w) (t : Tr F0 M0 w0 F M w)
  (next : ∀ s' F' M' a' w',Rel c N F' M' s' a' w' -> Tr F0 M0 w0 F' M' w' -> K s' -> C a' w') : wpOpIn (Fw ro) 0 c.P ops Q i C a w:=by
 have hmem : o ∈ ops.toList:=by
  have : ops.toList[i]? = some o:=by simpa using hget
  exact List.mem_of_getElem? this
 have hoo:=List.all_eq_true.1 hok o hmem
 have hHH : HSound c (bif (fl o).hs then H else HD):=by cases (fl o).hs <;> assumption
 unfold wpOpIn
 simp only [hget]
 have hdo0 : ∀ t,o.dst = some t -> t < N:=by
  intro t e
  simp only [opOk,Bool.and_eq_true,e] at hoo
  exact Nat.le_of_ble_eq_true hoo.1.1
 unfold stepA at hK
 cases hky : (fl o).ky with
 | some k =>
  rw [hky] at hK
  simp only at hK
  obtain ⟨hg,hw⟩:=op_res hT h hdo0 hK
  rw [wanted_none hg]
  simp only [if_true]
  exact Oper.wp_post t hw next
 | none =>
 rw [hky] at hK
 simp only at hK
 cases hfz : (fl o).fz with
 | true =>
  rw [hfz] at hK
  simp only at hK
  cases hg : guardOf ops o with
  | some q => rw [hg] at hK; exact hK.elim
  | none =>
   rw [hg] at hK
   have hg0 : o.guard = none:=by
    cases hq : o.guard with
    | none => rfl
    | some q => obtain ⟨j,want⟩:=q; simp [guardOf,hq] at hg
   rw [wanted_none hg0]
   simp only [if_true]
   exact Oper.wp_post t (op_fz hT hoo h hK) next
 | false =>
 rw [hfz] at hK
 simp only at hK
 cases hg : o.guard with
 | none =>
  have e1 : guardOf ops o = none:=by simp [guardOf,hg]
  rw [e1] at hK
  rw [wanted_none hg]
  simp only [if_true]
  exact (Oper.wp_post t (aOpS_sound hT hHH hH hoo h (young_out hK)) next)
 | some p =>
  obtain ⟨j,want⟩:=p
  have e1 : guardOf ops o = some ((nth ops.toList j).bind (·.dst),want):=by simp [guardOf,hg]
  rw [e1] at hK
  cases hdj : (nth ops.toList j).bind (·.dst) with
  | none => rw [hdj] at hK; exact hK.elim
  | some d =>
   rw [hdj] at hK
   simp only at hK
   have hdN : d < N:=by
    rw [nth_eq] at hdj
    cases hoj : ops.toList[j]? with
    | none => rw [hoj] at hdj; cases hdj
    | some oj =>
     rw [hoj] at hdj
     simp only [Option.bind_some] at hdj
     have:=List.all_eq_true.1 hok oj (List.mem_of_getElem? hoj)
     simp only [opOk,Bool.and_eq_true,hdj] at this
     exact Nat.le_of_ble_eq_true this.1.1
   cases hb : s.tm d with
   | bool b =>
    rw [hb] at hK
    simp only at hK
    have hrv:=h.tm d hdN
    rw [hb] at hrv
    unfold RepM at hrv
    have hy : yielded ops a.tmps j = some b:=by
     have hds : a.tmps[d]? = some (.bool b):=by
      have hlt : d < a.tmps.size:=by rw [h.sz]; exact hdN
      simp only [Array.getD_eq_getD_getElem?] at hrv
      rw [Array.getElem?_eq_getElem hlt] at hrv ⊢
      simpa using hrv
     unfold yielded
     have : (ops[j]?).bind (·.dst) = some d:=by
      rw [nth_eq] at hdj
      simpa using hdj
     rw [this]
     simp [hds]
    have hw : Region.wanted o (yielded ops a.tmps) = (b == want):=by
     simp [Region.wanted,hg,hy]
    rw [hw]
    by_cases e : b = want
    ·subst e
     simp only [beq_self_eq_true,if_true]
     exact (Oper.wp_post t (aOpS_sound hT hHH hH hoo (h.setBool hb) (young_out (hK.1 rfl))) next)
    ·have e2 : b = !want:=by cases b <;> cases want <;> simp_all
     have e3 : (b == want) = false:=by simpa using e
     rw [e3]
     simp only [Bool.false_eq_true,if_false]
     have h2:=h.setBool hb
     rw [e2] at h2
     have hdo : ∀ t,o.dst = some t -> t < N:=by
      intro t e
      simp only [opOk,Bool.and_eq_true,e] at hoo
      exact Nat.le_of_ble_eq_true hoo.1.1
     exact ⟨fun _ _ => trivial,next _ _ _ _ _ (h2.put hdo (av:=.tup []) (v:=undef) (by unfold RepM; exact ⟨[],rfl,by unfold RepML; rfl⟩)) t (hK.2 e2)⟩
   | tup l =>
    rw [hb] at hK
    cases l with
    | cons _ _ => exact hK.elim
    | nil =>
     simp only at hK
     have hrv:=h.tm d hdN
     rw [hb] at hrv
     unfold RepM at hrv
     obtain ⟨us,e0,e1⟩:=hrv
     unfold RepML at e1
     subst e1
     have hy : yielded ops a.tmps j = none:=by
      have hlt : d < a.tmps.size:=by rw [h.sz]; exact hdN
      have hds : a.tmps[d]? = some (.tuple ⟨[]⟩):=by
       simp only [Array.getD_eq_getD_getElem?] at e0
       rw [Array.getElem?_eq_getElem hlt] at e0 ⊢
       simpa using e0
      unfold yielded
      have : (ops[j]?).bind (·.dst) = some d:=by
       rw [nth_eq] at hdj
       simpa using hdj
      rw [this]
      simp [hds]
     have hw : Region.wanted o (yielded ops a.tmps) = false:=by
      simp [Region.wanted,hg,hy]
     rw [hw]
     simp only [Bool.false_eq_true,if_false]
     have hdo : ∀ t,o.dst = some t -> t < N:=by
      intro t e
      simp only [opOk,Bool.and_eq_true,e] at hoo
      exact Nat.le_of_ble_eq_true hoo.1.1
     exact ⟨fun _ _ => trivial,next _ _ _ _ _ (h.put hdo (av:=.tup []) (v:=undef) (by unfold RepM; exact ⟨[],rfl,by unfold RepML; rfl⟩)) t hK⟩
   | _ => rw [hb] at hK; exact hK.elim
theorem aOps_sound {HD : Tg -> List AV -> St -> (AV -> St -> Prop) -> Prop} (hT : TOk c.P c.T) (hHD : HSound c HD) (hH : HSound c H) {fl : Oper -> Fl} {p : Nat -> Bool} {ops : Array Oper} (hok : ops.toList.all (opOk c.P N) = true) {F0 : Foot} {M0 : Nat -> Option MB} {w0 : World}
  (hC : ∀ s' F' M' a' w',Rel c N F' M' s' a' w' -> Tr F0 M0 w0 F' M' w' -> K s' -> Q .normal a' w') :
  ∀ (n i : Nat) (s : St) (F : Foot) (M : Nat -> Option MB) (a : Act) (w : World),i + n = ops.size -> aOps c.T c.gl HD H fl p ops (ops.toList.drop i) s K -> Rel c N F M s a w -> Tr F0 M0 w0 F M w ->
   wpOpsIn (Fw ro) 0 c.P ops Q (List.range' i n) a w
 | 0,i,s,F,M,a,w,hi,hK,h,t => by
   rw [List.drop_of_length_le (by simp; omega)] at hK
   exact hC s F M a w h t hK
 | n + 1,i,s,F,M,a,w,hi,hK,h,t => by
   have hlt : i < ops.toList.length:=by simp; omega
   rw [List.drop_eq_getElem_cons hlt] at hK
   have hget : ops[i]? = some ops.toList[i]:=by simp
   rw [List.range'_succ,wpOpsIn_cons]
   rw [aOps_cons] at hK
   exact step_sound hT hHD hH hok hget hK h t fun s' F' M' a' w' r t' k => aOps_sound hT hHD hH hok hC n (i + 1) s' F' M' a' w' (by omega) k r t'
theorem mem_numbered : ∀ {l : List Oper} {ms : List Nat} {i j m : Nat} {o : Oper},(j,m,o) ∈ numbered l ms i -> i <= j∧l[j - i]? = some o∧ms[j - i]? = some m
 | [],ms,i,j,m,o,h => by cases h
 | x :: l,[],i,j,m,o,h => by cases h
 | x :: l,y :: ms,i,j,m,o,h => by
   unfold numbered at h
   rcases List.mem_cons.1 h with h | h
   ·cases h
    simp
   ·obtain ⟨h1,h2,h3⟩:=mem_numbered h
    have h1' : i + 1 <= j:=h1
    have : j - i = (j - Nat.succ i) + 1:=by omega
    rw [this]
    exact ⟨by omega,by simpa using h2,by simpa using h3⟩
inductive Good (fl : Oper -> Fl) (ops : Array Oper) (masks : List Nat) : List (Nat × Nat × Oper) -> Prop
 | nil : Good fl ops masks []
 | cons {i m : Nat} {o : Oper} {l} (h1 : aheadOk masks i m o = true) (h2 : ∀ p ∈ l,Nat.testBit p.2.1 i = true ∨ indep fl ops o p.2.2 = true) (h : Good fl ops masks l) : Good fl ops masks ((i,m,o) :: l)
theorem pairsOk_good {fl : Oper -> Fl} {ops : Array Oper} {masks : List Nat} : ∀ {l : List (Nat × Nat × Oper)},pairsOk fl ops masks l = true -> Good fl ops masks l
 | [],_ => .nil
 | (i,m,o) :: l,h => by
   simp only [pairsOk,Bool.and_eq_true,List.all_eq_true,Bool.or_eq_true] at h
   exact .cons h.1.1 h.1.2 (pairsOk_good h.2)
theorem Good.sub {fl : Oper -> Fl} {ops : Array Oper} {masks : List Nat} {l : List (Nat × Nat × Oper)} (f : Nat × Nat × Oper -> Bool) (h : Good fl ops masks l) : Good fl ops masks (l.filter f):=by
 induction h with
 | nil => exact .nil
 | @cons i m o l h1 h2 h ih =>
  rw [List.filter_cons]
  split
  ·exact .cons h1 (fun p hp => h2 p (List.mem_filter.1 hp).1) ih
  ·exact ih
theorem Good.split {fl : Oper -> Fl} {ops : Array Oper} {masks : List Nat} {l1 l2 : List (Nat × Nat × Oper)} {i m : Nat} {o : Oper} (h : Good fl ops masks (l1 ++ (i,m,o) :: l2)) :
  aheadOk masks i m o = true∧∀ p ∈ l1,Nat.testBit m p.1 = true ∨ indep fl ops p.2.2 o = true:=by
 induction l1 with
 | nil =>
  cases h with
  | cons h1 h2 h => exact ⟨h1,by simp⟩
 | cons p l1 ih =>
  cases h with
  | cons h1 h2 h =>
   obtain ⟨g1,g2⟩:=ih h
   refine ⟨g1,fun q hq => ?_⟩
   rcases List.mem_cons.1 hq with e | hq
   ·subst e; exact h2 (i,m,o) (by simp)
   ·exact g2 q hq
theorem numbered_sorted : ∀ (l : List Oper) (ms : List Nat) (i : Nat),(numbered l ms i).Pairwise fun p q => p.1 < q.1
 | [],ms,i => List.Pairwise.nil
 | x :: l,[],i => List.Pairwise.nil
 | x :: l,y :: ms,i => by
   unfold numbered
   refine List.Pairwise.cons (fun q hq => ?_) (numbered_sorted l ms _)
   obtain ⟨j,m,o⟩:=q
   exact (mem_numbered hq).1
theorem numbered_mem : ∀ {l : List Oper} {ms : List Nat} {i j : Nat} {o : Oper},ms.length = l.length -> l[j]? = some o -> ∃ m,ms[j]? = some m∧(i + j,m,o) ∈ numbered l ms i
 | [],ms,i,j,o,_,h => by simp at h
 | x :: l,[],i,j,o,hl,h => by simp at hl
 | x :: l,y :: ms,i,0,o,hl,h => by
   simp at h; subst h
   exact ⟨y,by simp,by unfold numbered; simp⟩
 | x :: l,y :: ms,i,j + 1,o,hl,h => by
   obtain ⟨m,h1,h2⟩:=numbered_mem (l:=l) (ms:=ms) (i:=Nat.succ i) (j:=j) (by simpa using hl) (by simpa using h)
   refine ⟨m,by simpa using h1,?_⟩
   unfold numbered
   rw [show i + (j + 1) = Nat.succ i + j by omega]
   exact List.mem_cons_of_mem _ h2
theorem numbered_map : ∀ {l : List Oper} {ms : List Nat} {i : Nat},ms.length = l.length -> (numbered l ms i).map (·.2.2) = l
 | [],ms,i,_ => rfl
 | x :: l,[],i,hl => by simp at hl
 | x :: l,y :: ms,i,hl => by
   unfold numbered
   simp only [List.map_cons]
   rw [numbered_map (by simpa using hl)]
theorem foldl_length {α : Type} (g : List Nat -> α -> Nat) : ∀ (l : List α) (acc : List Nat),(l.foldl (fun acc o => acc ++ [g acc o]) acc).length = acc.length + l.length
 | [],acc => by simp
 | x :: l,acc => by rw [List.foldl_cons,foldl_length g l]; simp; omega
theorem aheadOf_length (ops : List Oper) : (aheadOf ops).length = ops.length:=by
 unfold aheadOf
 rw [foldl_length]
 simp
def Closed (masks : List Nat) (listed : Array Bool) : Prop:=∀ j k m,listed.getD j false = true -> masks[j]? = some m -> k < j -> Nat.testBit m k = true -> listed.getD k false = true
theorem ahead_listed {ops : Array Oper} {masks : List Nat} {listed : Array Bool} (hc : Closed masks listed) {i m : Nat} {o : Oper} (ho : ops[i]? = some o) (ha : aheadOk masks i m o = true) (hr : i ∈ Region.ready .any ops listed)
  {k : Nat} (hk : k < i) (hb : Nat.testBit m k = true) : listed.getD k false = true:=by
 rw [mem_ready] at hr
 obtain ⟨h0,o',ho',hall⟩:=hr
 rw [ho] at ho'; cases ho'
 simp only [aheadOk,Bool.and_eq_true,List.all_eq_true,List.mem_range] at ha
 have h2:=ha.2 k hk
 rw [hb] at h2
 simp only [List.any_eq_true] at h2
 obtain ⟨e,he,h2⟩:=h2
 have h1:=ha.1 e he
 cases hbd : Region.binds .any e with
 | false => rw [hbd] at h2; cases h2
 | true =>
  rw [hbd] at h1 h2
  have hl:=hall e (by simpa using he) hbd
  simp only [Bool.or_eq_true,Bool.and_eq_true] at h2
  rcases h2 with h2 | ⟨h3,h2⟩
  ·rw [<- Nat.eq_of_beq_eq_true h2]; exact hl
  ·rw [nth_eq] at h2
   cases hm : masks[e.on]? with
   | none => rw [hm] at h2; simp at h2
   | some m' =>
    rw [hm] at h2
    exact hc e.on k m' hl hm (Nat.le_of_ble_eq_true h3) h2
theorem any_sound {HD : Tg -> List AV -> St -> (AV -> St -> Prop) -> Prop} (hT : TOk c.P c.T) (hHD : HSound c HD) (hM : HMakes HD) (hH : HSound c H) {fl : Oper -> Fl} {p : Nat -> Bool} (hold : ∀ o,(fl o).old = true -> turnsF (fl o) o.op = true) (hkp : ∀ o k,(fl o).ky = some k -> p k = false∧∀ o',Nat.blt k (fl o').lo = false) {ops : Array Oper} {masks : List Nat} (hms : masks.length = ops.toList.length) (hok : ops.toList.all (opOk c.P N) = true)
  (hg : Good fl ops masks (numbered ops.toList masks 0)) {F0 : Foot} {M0 : Nat -> Option MB} {w0 : World}
  (hC : ∀ s' F' M' a' w',Rel c N F' M' s' a' w' -> Tr F0 M0 w0 F' M' w' -> K s' -> Q .normal a' w') :
  ∀ (fuel : Nat) (listed : Array Bool) (s : St) (F : Foot) (M : Nat -> Option MB) (a : Act) (w : World),listed.size = ops.size -> Closed masks listed ->
   ((numbered ops.toList masks 0).filter fun p => !listed.getD p.1 true).length <= fuel ->
   aOps c.T c.gl HD H fl p ops (((numbered ops.toList masks 0).filter fun p => !listed.getD p.1 true).map (·.2.2)) s K -> Rel c N F M s a w -> Tr F0 M0 w0 F M w ->
   wpAnyIn (Fw ro) 0 c.P .any ops Q fuel listed a w:=by
 have hrd : ∀ (listed : Array Bool) i,i ∈ Region.ready .any ops listed -> ∃ m o,ops[i]? = some o∧masks[i]? = some m∧(i,m,o) ∈ (numbered ops.toList masks 0).filter fun p => !listed.getD p.1 true:=by
  intro listed i hi
  rw [mem_ready] at hi
  obtain ⟨h0,o,ho,hall⟩:=hi
  obtain ⟨m,h1,h2⟩:=numbered_mem (l:=ops.toList) (ms:=masks) (i:=0) (j:=i) (o:=o) hms (by simpa using ho)
  refine ⟨m,o,ho,h1,List.mem_filter.2 ⟨by simpa using h2,by rw [h0]; rfl⟩⟩
 intro fuel
 induction fuel with
 | zero =>
  intro listed s F M a w hsz hc hf hK h t
  have he : ((numbered ops.toList masks 0).filter fun p => !listed.getD p.1 true) = []:=List.eq_nil_of_length_eq_zero (by omega)
  rw [he] at hK
  refine ⟨?_,hC s F M a w h t hK⟩
  refine List.eq_nil_iff_forall_not_mem.2 fun i hi => ?_
  obtain ⟨m,o,_,_,h3⟩:=hrd listed i hi
  rw [he] at h3; cases h3
 | succ fuel ih =>
  intro listed s F M a w hsz hc hf hK h t
  have hsort:=(numbered_sorted ops.toList masks 0).filter (fun p => !listed.getD p.1 true)
  have hgood:=hg.sub (fun p => !listed.getD p.1 true)
  refine ⟨fun hr => ?_,fun i hi => ?_⟩
  ·cases hl : (numbered ops.toList masks 0).filter fun p => !listed.getD p.1 true with
   | nil => rw [hl] at hK; exact hC s F M a w h t hK
   | cons p rest =>
    exfalso
    obtain ⟨i,m,o⟩:=p
    have hmem : (i,m,o) ∈ (numbered ops.toList masks 0).filter fun p => !listed.getD p.1 true:=by rw [hl]; simp
    have hm:=List.mem_filter.1 hmem
    obtain ⟨_,g2,g3⟩:=mem_numbered hm.1
    have hun : listed.getD i true = false:=by simpa using hm.2
    rw [hl] at hgood hsort
    obtain ⟨ha,_⟩:=Good.split (l1:=[]) hgood
    have : i ∈ Region.ready .any ops listed:=by
     rw [mem_ready]
     refine ⟨hun,o,by simpa using g2,fun e he hb => ?_⟩
     simp only [aheadOk,Bool.and_eq_true,List.all_eq_true] at ha
     have h1:=ha.1 e (by simpa using he)
     rw [hb] at h1
     have hei : e.on < i:=Nat.le_of_ble_eq_true h1
     cases hle : listed.getD e.on false with
     | true => rfl
     | false =>
      exfalso
      have hisz : i < ops.size:=by
       have : ops[i]? = some o:=by simpa using g2
       exact (Array.getElem?_eq_some_iff.1 this).1
      have hle' : listed.getD e.on true = false:=by
       have hlt : e.on < listed.size:=by omega
       simp only [Array.getD_eq_getD_getElem?,Array.getElem?_eq_getElem hlt,Option.getD_some] at hle ⊢
       exact hle
      have hlt : e.on < ops.toList.length:=by simp; omega
      obtain ⟨m',k1,k2⟩:=numbered_mem (l:=ops.toList) (ms:=masks) (i:=0) (j:=e.on) hms (List.getElem?_eq_getElem hlt)
      have : (e.on,m',ops.toList[e.on]) ∈ (numbered ops.toList masks 0).filter fun p => !listed.getD p.1 true:=List.mem_filter.2 ⟨by simpa using k2,by simp only [hle']; rfl⟩
      rw [hl] at this
      rcases List.mem_cons.1 this with q | q
      ·cases q; omega
      ·have:=List.rel_of_pairwise_cons hsort q
       simp only at this
       omega
    rw [hr] at this; cases this
  ·obtain ⟨m,o,ho,hmi,hmem⟩:=hrd listed i hi
   obtain ⟨l1,l2,hl⟩:=List.append_of_mem hmem
   rw [hl] at hgood hsort
   obtain ⟨ha,hin⟩:=hgood.split
   have hsp:=List.pairwise_append.1 hsort
   have hlt1 : ∀ p ∈ l1,p.1 < i:=fun p hp => hsp.2.2 p hp (i,m,o) (by simp)
   have hlt2 : ∀ p ∈ l2,i < p.1:=fun p hp => List.rel_of_pairwise_cons hsp.2.1 hp
   have hunl : ∀ p ∈ l1,listed.getD p.1 true = false:=by
    intro p hp
    have : p ∈ (numbered ops.toList masks 0).filter fun p => !listed.getD p.1 true:=by rw [hl]; simp [hp]
    simpa using (List.mem_filter.1 this).2
   have hindep : ∀ x ∈ l1.map (·.2.2),indep fl ops x o = true:=by
    intro x hx
    obtain ⟨p,hp,rfl⟩:=List.mem_map.1 hx
    rcases hin p hp with hb | hb
    ·exfalso
     have h1:=ahead_listed hc ho ha hi (hlt1 p hp) hb
     have h2:=hunl p hp
     have hlt : p.1 < listed.size:=by
      have : i < ops.size:=(Array.getElem?_eq_some_iff.1 ho).1
      have:=hlt1 p hp
      omega
     simp only [Array.getD_eq_getD_getElem?,Array.getElem?_eq_getElem hlt,Option.getD_some] at h1 h2
     rw [h1] at h2; cases h2
    ·exact hb
   rw [hl,List.map_append,List.map_cons] at hK
   have hK2:=front hM hold hkp _ _ hindep hK
   rw [aOps_cons] at hK2
   refine step_sound hT hHD hH hok ho hK2 h t fun s' F' M' a' w' r t' k => ?_
   have hisz : i < listed.size:=by rw [hsz]; exact (Array.getElem?_eq_some_iff.1 ho).1
   have hfil : ((numbered ops.toList masks 0).filter fun p => !(listed.setIfInBounds i true).getD p.1 true) = l1 ++ l2:=by
    have e1 : (fun p : Nat × Nat × Oper => !(listed.setIfInBounds i true).getD p.1 true) = fun p => (!listed.getD p.1 true) && !(p.1 == i):=by
     funext p
     by_cases e : i = p.1
     ·rw [<- e]
      simp [hisz]
     ·rw [getD_set_ne true e]
      have : (p.1 == i) = false:=by simpa using (Ne.symm e)
      rw [this]; simp
    rw [e1]
    have e2 : ((numbered ops.toList masks 0).filter fun p => (!listed.getD p.1 true) && !(p.1 == i)) = ((numbered ops.toList masks 0).filter fun p => !listed.getD p.1 true).filter fun p => !(p.1 == i):=by
     rw [List.filter_filter]
     congr 1
     funext p
     exact Bool.and_comm _ _
    rw [e2,hl,List.filter_append,List.filter_cons]
    have e3 : l1.filter (fun p => !(p.1 == i)) = l1:=List.filter_eq_self.2 fun p hp => by
     have:=hlt1 p hp
     simp; omega
    have e4 : l2.filter (fun p => !(p.1 == i)) = l2:=List.filter_eq_self.2 fun p hp => by
     have:=hlt2 p hp
     simp; omega
    rw [e3,e4]
    simp
   refine ih _ s' F' M' a' w' (by simpa using hsz) ?_ ?_ (by rw [hfil,List.map_append]; exact k) r t'
   ·intro j kk m' hj hm' hk hb
    by_cases e : i = j
    ·subst e
     rw [hmi] at hm'; cases hm'
     exact getD_set_true (ahead_listed hc ho ha hi hk hb)
    ·rw [getD_set_ne false e] at hj
     exact getD_set_true (hc j kk m' hj hm' hk hb)
   ·rw [hfil]
    rw [hl] at hf
    simp at hf ⊢
    omega
theorem exists_least (p : Nat -> Prop) (h : ∃ n,p n) : ∃ n,p n∧∀ m,p m -> n <= m:=by
 obtain ⟨n,hn⟩:=h
 induction n using Nat.strongRecOn with
 | ind n ih =>
  by_cases hm : ∃ m,m < n∧p m
  ·obtain ⟨m,h1,h2⟩:=hm
   exact ih m h1 h2
  ·exact ⟨n,hn,fun m h2 => Nat.le_of_not_lt fun h1 => hm ⟨m,h1,h2⟩⟩
end
end Ab
end
section
namespace Ab
open Go Go.RowKit
theorem wp_loop' {ro : Option Nat} {P : Program} {body : Code} {Q : Exit -> Act -> World -> Prop} (J : Nat -> Act -> World -> Prop)
  (round : ∀ n a w,J n a w -> body.wpIn (Fw ro) 0 P (Exit.then (fun a' w' => ∃ m,m < n∧J m a' w') Q) a w) {n : Nat} {a : Act} {w : World} (h : J n a w) : (Code.loop body).wpIn (Fw ro) 0 P Q a w:=by
 classical
 refine wpIn_loop (fun a w => ∃ n,J n a w) (fun a w => if h : ∃ n,J n a w then Classical.choose (exists_least _ h) else 0) ⟨n,h⟩ fun a w hI => ?_
 have hJ:=(Classical.choose_spec (exists_least _ hI)).1
 refine wpIn_mono (round _ a w hJ) fun e a' w' hq => ?_
 cases e with
 | normal =>
  obtain ⟨m,hm,hj⟩:=hq
  refine ⟨⟨m,hj⟩,?_⟩
  have h1 : ∃ n,J n a' w':=⟨m,hj⟩
  rw [dif_pos h1,dif_pos hI]
  exact Nat.lt_of_le_of_lt ((Classical.choose_spec (exists_least _ h1)).2 m hj) hm
 | _ => exact hq
def CPost (c : Ctx) (N : Nat) (F : Foot) (M : Nat -> Option MB) (w : World) (Q : Exit -> St -> Prop) : Exit -> Act -> World -> Prop:=fun e a' w' =>
 ∃ s' F' M',Rel c N F' M' s' a' w'∧Tr F M w F' M' w'∧Q e s'
abbrev Ctx.wa (c : Ctx) (al : List (Nat × Obj)) : Ctx:={ c with al:=al }
def RoundOk (c : Ctx) (l : Nat) (F : Foot) (M : Nat -> Option MB) (w : World) (round : List AV -> St -> (St -> Prop) -> Prop) : Prop :=
 ∀ (args : List AV) (vals : List Value) (s1 : St) (K1 : St -> Prop) (F1 : Foot) (M1 : Nat -> Option MB) (w1 : World),round args s1 K1 -> HR c F1 M1 s1.hp s1.nx w1 -> Tr F M w F1 M1 w1 -> RepML w1 F1 M1 args vals ->
  YieldAt Fence.wide 0 c.P l ⟨vals⟩ w1 fun e w' => e = .returned (.bool true)∧∃ s' F' M',s'.tm = s1.tm∧HR c F' M' s'.hp s'.nx w'∧Tr F1 M1 w1 F' M' w'∧K1 s'
def GSound (c : Ctx) (G : FuncId -> List AV -> St -> (List AV -> St -> (St -> Prop) -> Prop) -> (St -> Prop) -> Prop) : Prop :=
 ∀ (f : FuncId) (cap : List AV) (s : St) (round : List AV -> St -> (St -> Prop) -> Prop) (K : St -> Prop) (F : Foot) (M : Nat -> Option MB) (w : World) (caps : List Value) (l : Nat),
  G f cap s round K -> HR c F M s.hp s.nx w -> RepML w F M cap caps -> RoundOk c l F M w round ->
  enters c.P f = true∧Calls c.P f ⟨.func (.yield l) #[] #[] :: caps⟩ w fun e w' => ∃ v s' F' M',e = .returned v∧HR c F' M' s'.hp s'.nx w'∧Tr F M w F' M' w'∧K s'
theorem HR.other {c : Ctx} {F : Foot} {M : Nat -> Option MB} {hp : Nat -> Option Blk} {nx : Nat} {w w' : World} (h : HR c F M hp nx w) (al : List (Nat × Obj))
  (hb : ∀ b,(F b ∨ ∃ k m,M k = some m∧m.b = b) -> w'.heap[b]? = w.heap[b]?) (hsz : w.heap.size <= w'.heap.size) (hB : Below c.w0.heap.size c.w0 w') (hal : AlOk c F M al w') (hba : BaseOk c F M w') :
  HR (c.wa al) F M hp nx w':=by
 have hc : ∀ b,F b -> w'.heap[b]? = w.heap[b]?:=fun b hf => hb b (.inl hf)
 have hm : ∀ k m,M k = some m -> w'.heap[m.b]? = w.heap[m.b]?:=fun k m hk => hb _ (.inr ⟨k,m,hk,rfl⟩)
 have hMC : ∀ (b : Nat),w'.heap[b]? = w.heap[b]? -> ∀ (l : List AV) (o : Nat),RepMC w F M b l o -> RepMC w' F M b l o:=by
  intro b he l
  induction l with
  | nil => intro o _; unfold RepMC; trivial
  | cons x l ih =>
   intro o hx
   unfold RepMC at hx ⊢
   obtain ⟨⟨h0,v,h1,h2⟩,h3⟩:=hx
   exact ⟨⟨h0,v,(World.cell?_of_block he).trans h1,RepM.mono (fun _ h => h) hc (fun _ _ h => h) _ _ h2⟩,ih (o + 1) h3⟩
 refine ⟨fun k cs hk => ?_,fun k sz rows lv hk => ?_,fun k et cs hk => ?_,h.inj,h.dom,fun b hf => Nat.lt_of_lt_of_le (h.fl b hf) hsz,h.hist,fun g av hg => RepM.mono (fun _ h => h) hc (fun _ _ h => h) _ _ (h.gl g av hg),hB,fun k m hk => Nat.lt_of_lt_of_le (h.ml k m hk) hsz,hal,hba,h.res,fun k es hk => (by
  obtain ⟨m,h1,h2,h3,h4⟩:=h.mp k es hk
  exact ⟨m,h1,h2,h3,h4.keep (hm k m h1)⟩)⟩
 ·obtain ⟨m,h1,h2,h3,h4,h5,h6⟩:=h.box k cs hk
  exact ⟨m,h1,h2,h3,h4.keep (hm k m h1),h5,hMC _ (hm k m h1) cs 0 h6⟩
 ·obtain ⟨m,h1,h0,h2,h3,h4,h5,h6,h7,h8⟩:=h.arr k sz rows lv hk
  exact ⟨m,h1,h0,h2,h3,h4,h5.keep (hm k m h1),h6,h7,RepR.keep (fun _ h => h) hc (hm k m h1) rows 0 h8⟩
 ·obtain ⟨m,h1,h0,h2,h3,h4,h5,h6⟩:=h.own k et cs hk
  exact ⟨m,h1,h0,h2,h3,h4.keep (hm k m h1),h5,hMC _ (hm k m h1) cs 0 h6⟩
theorem putObj_below {B : Nat} {w0 w : World} (h : Below B w0 w) {l : Nat} {o : Obj} (hl : B <= l) : Below B w0 (w.putObj l o) :=
 ⟨h.os,h.tape,h.output,by rw [World.putObj_size]; exact h.size,fun b hb => (World.putObj_heap_other (by omega)).trans (h.block b hb)⟩
theorem Tr.alter {F F' : Foot} {M M' : Nat -> Option MB} {w w' : World} {l : Nat} {o : Obj} (t : Tr F M w F' M' w') (hl : w.heap.size <= l) (hF : ∀ b,F b -> b < w.heap.size) : Tr F M w F' M' (w'.putObj l o) :=
 ⟨t.foot,fun b hb => (World.putObj_heap_other (by have:=hF b hb; omega)).trans (t.cell b hb),t.map,by rw [World.putObj_size]; exact t.size,t.fnew,t.mnew,fun b hb hn => (World.putObj_heap_other (by omega)).trans (t.rest b hb hn)⟩
theorem HR.putAlien {c : Ctx} {F : Foot} {M : Nat -> Option MB} {hp : Nat -> Option Blk} {nx : Nat} {w : World} (h : HR c F M hp nx w) {l : Nat} (hl : Alien c F M l) (hlt : l < w.heap.size) (o : Obj) (al : List (Nat × Obj))
  (hal : ∀ p ∈ al,(p = (l,o)) ∨ (p.1 ≠ l∧p ∈ c.al)) (hbl : ∀ b,c.base = some b -> b.2.2.heap.size <= l) : HR (c.wa al) F M hp nx (w.putObj l o):=by
 refine h.other al (fun b hb => World.putObj_heap_other fun e => ?_) (by rw [World.putObj_size]; exact Nat.le_refl _) (putObj_below h.bel hl.1) (fun p hp => ?_) fun b hb => ⟨(h.base b hb).1.alter (hbl b hb) (h.base b hb).2,(h.base b hb).2⟩
 ·subst e
  rcases hb with hb | ⟨k,m,h1,h2⟩
  ·exact hl.2.1 hb
  ·exact hl.2.2 k m h1 h2
 ·rcases hal p hp with e | ⟨e,hp'⟩
  ·subst e
   exact ⟨hl,World.putObj_heap_same hlt⟩
  ·obtain ⟨h1,h2⟩:=h.al p hp'
   exact ⟨h1,(World.putObj_heap_other e).trans h2⟩
end Ab
end
section
namespace Ab
open Go Go.RowKit
def clean (n : Nat) (hp : Nat -> Option Blk) : Nat -> Prop
 | 0 => True
 | k + 1 => blB n (hp k) = true∧clean n hp k
theorem clean_at {n : Nat} {hp : Nat -> Option Blk} : ∀ {m : Nat},clean n hp m -> ∀ k,k < m -> blB n (hp k) = true
 | 0,_,k,h => by omega
 | m + 1,h,k,hk => by
   by_cases e : k = m
   ·subst e; exact h.1
   ·exact clean_at h.2 k (by omega)
def cutH (n : Nat) (hp : Nat -> Option Blk) : Nat -> Option Blk:=fun k => bif Nat.blt k n then hp k else none
def cutM (n : Nat) (M : Nat -> Option MB) : Nat -> Option MB:=fun k => bif Nat.blt k n then M k else none
theorem blt_iff {k n : Nat} : Nat.blt k n = true ↔ k < n:=by
 unfold Nat.blt; constructor
 ·intro h; exact Nat.le_of_ble_eq_true h
 ·intro h; exact Nat.ble_eq_true_of_le h
theorem cutM_some {n : Nat} {M : Nat -> Option MB} {k : Nat} {m : MB} (h : cutM n M k = some m) : M k = some m∧k < n:=by
 unfold cutM at h
 cases hb : Nat.blt k n with
 | true => rw [hb] at h; exact ⟨h,blt_iff.1 hb⟩
 | false => rw [hb] at h; cases h
theorem cutM_lt {n : Nat} {M : Nat -> Option MB} {k : Nat} (h : k < n) : cutM n M k = M k:=by unfold cutM; rw [blt_iff.2 h]; rfl
theorem cutH_some {n : Nat} {hp : Nat -> Option Blk} {k : Nat} {b : Blk} (h : cutH n hp k = some b) : hp k = some b∧k < n:=by
 unfold cutH at h
 cases hb : Nat.blt k n with
 | true => rw [hb] at h; exact ⟨h,blt_iff.1 hb⟩
 | false => rw [hb] at h; cases h
section
variable {w : World} {F : Foot} {M : Nat -> Option MB} {n : Nat}
mutual
theorem RepM.cut : ∀ (a : AV) (v : Value),bl n a = true -> RepM w F M a v -> RepM w F (cutM n M) a v
 | .int _ _,_,_,h => h
 | .bool _,_,_,h => h
 | .str _,_,_,h => h
 | .nil,_,_,h => h
 | .undef,_,_,h => h
 | .yl _,_,_,h => h
 | .lit _,_,_,h => h
 | .sl rows,v,_,h => h
 | .bp k o,v,hb,h => by
   unfold RepM at h ⊢
   unfold bl at hb
   obtain ⟨m,h1,h2⟩:=h
   exact ⟨m,by rw [cutM_lt (blt_iff.1 hb)]; exact h1,h2⟩
 | .ap k r o,v,hb,h => by
   unfold RepM at h ⊢
   unfold bl at hb
   obtain ⟨m,h1,h2⟩:=h
   exact ⟨m,by rw [cutM_lt (blt_iff.1 hb)]; exact h1,h2⟩
 | .mv k,v,hb,h => by
   unfold RepM at h ⊢
   unfold bl at hb
   obtain ⟨m,h1,h2⟩:=h
   exact ⟨m,by rw [cutM_lt (blt_iff.1 hb)]; exact h1,h2⟩
 | .ms k off l,v,hb,h => by
   unfold RepM at h ⊢
   unfold bl at hb
   obtain ⟨m,h1,h2⟩:=h
   exact ⟨m,by rw [cutM_lt (blt_iff.1 hb)]; exact h1,h2⟩
 | .er row o,v,_,h => by unfold RepM at h ⊢; exact h
 | .agg cs,v,hb,h => by
   unfold RepM at h ⊢
   unfold bl at hb
   obtain ⟨vs,h1,h2⟩:=h
   exact ⟨vs,h1,RepML.cut cs vs hb h2⟩
 | .tup cs,v,hb,h => by
   unfold RepM at h ⊢
   unfold bl at hb
   obtain ⟨vs,h1,h2⟩:=h
   exact ⟨vs,h1,RepML.cut cs vs hb h2⟩
 | .fn f cs,v,hb,h => by
   unfold RepM at h ⊢
   unfold bl at hb
   obtain ⟨vs,h1,h2⟩:=h
   exact ⟨vs,h1,RepML.cut cs vs hb h2⟩
theorem RepML.cut : ∀ (l : List AV) (vs : List Value),bls n l = true -> RepML w F M l vs -> RepML w F (cutM n M) l vs
 | [],vs,_,h => by unfold RepML at h ⊢; exact h
 | c :: cs,vs,hb,h => by
   unfold RepML at h ⊢
   unfold bls at hb
   simp only [Bool.and_eq_true] at hb
   obtain ⟨v,vs',h1,h2,h3⟩:=h
   exact ⟨v,vs',h1,RepM.cut c v hb.1 h2,RepML.cut cs vs' hb.2 h3⟩
end
theorem RepMC.cut {b : Nat} : ∀ (l : List AV) (o : Nat),bls n l = true -> RepMC w F M b l o -> RepMC w F (cutM n M) b l o
 | [],_,_,_ => trivial
 | c :: cs,o,hb,h => by
   unfold bls at hb
   simp only [Bool.and_eq_true] at hb
   unfold RepMC at h ⊢
   obtain ⟨⟨h0,v,h1,h2⟩,h3⟩:=h
   exact ⟨⟨h0,v,h1,RepM.cut c v hb.1 h2⟩,RepMC.cut cs (o + 1) hb.2 h3⟩
variable {c : Ctx} {F0 : Foot} {M0 : Nat -> Option MB} {w0 : World} {hp : Nat -> Option Blk} {nx : Nat}
theorem Tr.cut (t : Tr F0 M0 w0 F M w) (h : ∀ k,n <= k -> M0 k = none) : Tr F0 M0 w0 F (cutM n M) w :=
 ⟨t.foot,t.cell,fun k m hk => (by
  by_cases e : k < n
  ·rw [cutM_lt e]; exact t.map k m hk
  ·rw [h k (by omega)] at hk; cases hk),t.size,t.fnew,fun k m hk => t.mnew k m (cutM_some hk).1,t.rest⟩
theorem HR.cut (h : HR c F M hp nx w) (hc : clean n hp n) (hb : BaseOk c F (cutM n M) w) : HR c F (cutM n M) (cutH n hp) n w:=by
 have hcl:=clean_at hc
 refine ⟨fun k cs hk => ?_,fun k sz rows lv hk => ?_,fun k et cs hk => ?_,fun k k' m m' hk hk' hm hm' e => ?_,fun k hk => ⟨?_,?_⟩,h.fl,h.hist,h.gl,h.bel,fun k m hk => h.ml k m (cutM_some hk).1,fun p hp => ⟨⟨(h.al p hp).1.1,(h.al p hp).1.2.1,fun k m hk => (h.al p hp).1.2.2 k m (cutM_some hk).1⟩,(h.al p hp).2⟩,hb,fun k hk => (by
  obtain ⟨h1,hlt⟩:=cutH_some hk
  rw [cutM_lt hlt]; exact h.res k h1),fun k es hk => (by
  obtain ⟨h1,hlt⟩:=cutH_some hk
  obtain ⟨m,g1,g2,g3,g4⟩:=h.mp k es h1
  exact ⟨m,by rw [cutM_lt hlt]; exact g1,g2,g3,g4⟩)⟩
 ·obtain ⟨h1,hlt⟩:=cutH_some hk
  obtain ⟨m,g1,g2,g3,g4,g5,g6⟩:=h.box k cs h1
  have:=hcl k hlt
  rw [h1] at this
  exact ⟨m,by rw [cutM_lt hlt]; exact g1,g2,g3,g4,g5,RepMC.cut cs 0 this g6⟩
 ·obtain ⟨h1,hlt⟩:=cutH_some hk
  obtain ⟨m,g1,g0,g2,g3,g4,g5,g6,g7,g8⟩:=h.arr k sz rows lv h1
  exact ⟨m,by rw [cutM_lt hlt]; exact g1,g0,g2,g3,g4,g5,g6,g7,g8⟩
 ·obtain ⟨h1,hlt⟩:=cutH_some hk
  obtain ⟨m,g1,g0,g2,g3,g4,g5,g6⟩:=h.own k et cs h1
  have:=hcl k hlt
  rw [h1] at this
  exact ⟨m,by rw [cutM_lt hlt]; exact g1,g0,g2,g3,g4,g5,RepMC.cut cs 0 this g6⟩
 ·cases hh : cutH n hp k with
  | none => exact absurd hh hk
  | some b =>
   cases hh' : cutH n hp k' with
   | none => exact absurd hh' hk'
   | some b' => exact h.inj k k' m m' (by rw [(cutH_some hh).1]; simp) (by rw [(cutH_some hh').1]; simp) (cutM_some hm).1 (cutM_some hm').1 e
 ·cases hh : cutM n M k with
  | none => rfl
  | some m => have:=(cutM_some hh).2; omega
 ·cases hh : cutH n hp k with
  | none => rfl
  | some m => have:=(cutH_some hh).2; omega
end
section
variable {c : Ctx} {N : Nat} {F : Foot} {M : Nat -> Option MB} {s s0 : St} {a : Act} {w : World} {n : Nat}
theorem clean_of_all {n : Nat} {h : Nat -> Option Blk} (hc : ∀ k,blB n (h k) = true) : ∀ m,clean n h m
 | 0 => trivial
 | m + 1 => ⟨hc m,clean_of_all hc m⟩
theorem Rel.of_leC (h : Rel c N F M s a w) (hl : LeC n s0 s) (hb : BaseOk c F (cutM n M) w) : Rel c N F (cutM n M) s0 a w:=by
 have h1:=h.toHR.weaken (hp':=s0.hp) (fun k => (hl.hp k).imp id fun e => e.1.1)
 have hcl : ∀ k,blB n (s0.hp k) = true:=fun k => by
  rcases hl.hp k with e | e
  ·rw [e]; rfl
  ·exact e.2
 have h2:=h1.cut (n:=n) (clean_of_all hcl n) hb
 have e : cutH n s0.hp = s0.hp:=by
  funext k
  unfold cutH
  cases hk : Nat.blt k n with
  | true => rfl
  | false =>
   rcases hl.hp k with e | e
   ·rw [e]; rfl
   ·rw [e.1.2] at hk; cases hk
 rw [e] at h2
 refine ⟨⟨h2.box,h2.arr,h2.own,h2.inj,fun k hk => h2.dom k (Nat.le_trans hl.nx hk),h2.fl,h2.hist,h2.gl,h2.bel,h2.ml,h2.al,h2.base,h2.res,h2.mp⟩,fun t ht => ?_,?_,h.sz⟩
 ·rcases hl.tm t with e | ⟨e1,e2⟩
  ·rw [e]; unfold RepM; trivial
  ·refine RepM.cut _ _ e2 ?_
   rw [e1]; exact h.tm t ht
 ·obtain ⟨d0,d1,d2,d3⟩:=h.df
  refine ⟨d0,d1,d2,fun D hD => ?_⟩
  obtain ⟨⟨g1,g2⟩,g3⟩:=d3 D hD
  exact ⟨⟨⟨g1.1,g1.2.1,fun k m hk => g1.2.2 k m (cutM_some hk).1⟩,g2⟩,g3⟩
end
def renM (ρ : Nat -> Nat) (n : Nat) (M : Nat -> Option MB) : Nat -> Option MB:=fun k => bif Nat.blt k n then M (ρ k) else none
theorem renM_lt {ρ : Nat -> Nat} {n k : Nat} {M : Nat -> Option MB} (h : k < n) : renM ρ n M k = M (ρ k):=by unfold renM; rw [blt_iff.2 h]; rfl
theorem renM_some {ρ : Nat -> Nat} {n k : Nat} {M : Nat -> Option MB} {m : MB} (h : renM ρ n M k = some m) : M (ρ k) = some m∧k < n:=by
 unfold renM at h
 cases hb : Nat.blt k n with
 | true => rw [hb] at h; exact ⟨h,blt_iff.1 hb⟩
 | false => rw [hb] at h; cases h
theorem Tr.ren {F0 F : Foot} {M0 M : Nat -> Option MB} {w0 w : World} {ρ : Nat -> Nat} {ks : List Nat} {hp : Nat -> Option Blk} {n n' : Nat} (t : Tr F0 M0 w0 F M w) (h : ∀ k,n <= k -> M0 k = none) (hid : ∀ k,k < n -> ρ k = k) (hn : n <= n') : Tr F0 M0 w0 (frzF ks hp M F) (renM ρ n' M) w :=
 ⟨fun b hb => .inl (t.foot b hb),t.cell,fun k m hk => (by
  by_cases e : k < n
  ·rw [renM_lt (by omega),hid k e]; exact t.map k m hk
  ·rw [h k (by omega)] at hk; cases hk),t.size,fun b hb => (by
  rcases hb with hb | ⟨k,m,_,_,_,_,_,h1,h2⟩
  ·exact t.fnew b hb
  ·rcases t.mnew k m h1 with ⟨k0,m0,h3,h4⟩ | h3
   ·exact .inr (.inl ⟨k0,m0,h3,h4.trans h2⟩)
   ·exact .inr (.inr (h2 ▸ h3))),fun k m hk => t.mnew (ρ k) m (renM_some hk).1,t.rest⟩
section
variable {c : Ctx} {N : Nat} {F : Foot} {M : Nat -> Option MB} {s s0 : St} {a : Act} {w : World} {n n' nx : Nat} {ρ : Nat -> Nat} {ks : List Nat} {hp : Nat -> Option Blk}
mutual
theorem RepM.ren (h : HR c F M hp nx w) : ∀ (d v : AV) (x : Value),cv ρ ks n' hp d v -> RepM w F M v x -> RepM w (frzF ks hp M F) (renM ρ n' M) d x
 | .int _ _,v,x,hc,hv => by unfold cv at hc; subst hc; exact hv
 | .bool _,v,x,hc,hv => by unfold cv at hc; subst hc; exact hv
 | .str _,v,x,hc,hv => by unfold cv at hc; subst hc; exact hv
 | .nil,v,x,hc,hv => by unfold cv at hc; subst hc; exact hv
 | .undef,_,_,_,_ => trivial
 | .yl l,v,x,hc,hv => by unfold cv at hc; subst hc; exact hv
 | .lit l,v,x,hc,hv => by unfold cv at hc; subst hc; exact hv
 | .er row o,v,x,hc,hv => by
   unfold cv at hc; subst hc
   unfold RepM at hv ⊢
   obtain ⟨b,off,h1,h2,h3⟩:=hv
   exact ⟨b,off,h1,.inl h2,RepC.mono (fun b hb => .inl hb) (fun _ _ => rfl) b h2 row off h3⟩
 | .bp k o,v,x,hc,hv => by
   unfold cv at hc
   obtain ⟨hk,rfl⟩:=hc
   unfold RepM at hv ⊢
   rw [renM_lt hk]; exact hv
 | .ap k r o,v,x,hc,hv => by
   unfold cv at hc
   obtain ⟨hk,rfl⟩:=hc
   unfold RepM at hv ⊢
   rw [renM_lt hk]; exact hv
 | .ms k o l,v,x,hc,hv => by
   unfold cv at hc
   obtain ⟨hk,rfl⟩:=hc
   unfold RepM at hv ⊢
   rw [renM_lt hk]; exact hv
 | .mv k,v,x,hc,hv => by
   unfold cv at hc
   obtain ⟨hk,rfl⟩:=hc
   unfold RepM at hv ⊢
   rw [renM_lt hk]; exact hv
 | .sl rows,v,x,hc,hv => by
   unfold cv at hc
   rcases hc with rfl | ⟨rfl,rfl⟩ | ⟨k,off,l,sz,rows',lv,rfl,hk,hb,hl,rfl⟩
   ·exact RepD.mono (fun b hb => .inl hb) (fun _ _ => rfl) _ _ hv
   ·unfold RepM at hv ⊢
    unfold RepD
    exact ⟨none,0,by simpa using hv,Nat.le_refl _,by simp,.inl rfl⟩
   ·obtain ⟨d,h1,_,h2⟩:=toD_sound h hv (K:=fun d => d = .sl ((rows'.drop off).take l)) (by simp only [toD,hb]; exact ⟨hl,trivial⟩)
    subst h2
    exact RepD.mono (fun b hb => frzF_mono (fun j hj => by simp only [keys,List.mem_singleton] at hj; subst hj; exact hk) hb) (fun _ _ => rfl) _ _ h1
 | .fn f cs,v,x,hc,hv => by
   unfold cv at hc
   obtain ⟨vs,rfl,hc⟩:=hc
   unfold RepM at hv ⊢
   obtain ⟨xs,h1,h2⟩:=hv
   exact ⟨xs,h1,RepML.ren h cs vs xs hc h2⟩
 | .agg cs,v,x,hc,hv => by
   unfold cv at hc
   obtain ⟨vs,rfl,hc⟩:=hc
   unfold RepM at hv ⊢
   obtain ⟨xs,h1,h2⟩:=hv
   exact ⟨xs,h1,RepML.ren h cs vs xs hc h2⟩
 | .tup cs,v,x,hc,hv => by
   unfold cv at hc
   obtain ⟨vs,rfl,hc⟩:=hc
   unfold RepM at hv ⊢
   obtain ⟨xs,h1,h2⟩:=hv
   exact ⟨xs,h1,RepML.ren h cs vs xs hc h2⟩
theorem RepML.ren (h : HR c F M hp nx w) : ∀ (ds vs : List AV) (xs : List Value),cvs ρ ks n' hp ds vs -> RepML w F M vs xs -> RepML w (frzF ks hp M F) (renM ρ n' M) ds xs
 | [],vs,xs,hc,hv => by unfold cvs at hc; subst hc; unfold RepML at hv ⊢; exact hv
 | d :: ds,vs,xs,hc,hv => by
   unfold cvs at hc
   obtain ⟨v,vs',rfl,h1,h2⟩:=hc
   unfold RepML at hv ⊢
   obtain ⟨x,xs',h3,h4,h5⟩:=hv
   exact ⟨x,xs',h3,RepM.ren h d v x h1 h4,RepML.ren h ds vs' xs' h2 h5⟩
end
theorem RepMC.ren {b : Nat} (h : HR c F M hp nx w) : ∀ (ds vs : List AV) (o : Nat),cvs ρ ks n' hp ds vs -> ones ds = true -> RepMC w F M b vs o -> RepMC w (frzF ks hp M F) (renM ρ n' M) b ds o
 | [],vs,o,hc,_,hv => trivial
 | d :: ds,vs,o,hc,ho,hv => by
   unfold cvs at hc
   obtain ⟨v,vs',rfl,h1,h2⟩:=hc
   simp only [ones,Bool.and_eq_true] at ho
   unfold RepMC at hv ⊢
   obtain ⟨⟨h0,x,h3,h4⟩,h5⟩:=hv
   exact ⟨⟨ho.1,x,h3,RepM.ren h d v x h1 h4⟩,RepMC.ren h ds vs' (o + 1) h2 ho.2 h5⟩
theorem cvs_len : ∀ {ds vs : List AV},cvs ρ ks n' hp ds vs -> ds.length = vs.length
 | [],vs,h => by unfold cvs at h; subst h; rfl
 | d :: ds,vs,h => by
   unfold cvs at h
   obtain ⟨v,vs',rfl,_,h2⟩:=h
   rw [List.length_cons,List.length_cons,cvs_len h2]
theorem HR.ren (h : HR c F M s.hp s.nx w) (hl : LeR n s0 s ρ ks) (hb : BaseOk c (frzF ks s.hp M F) (renM ρ s0.nx M) w) : HR c (frzF ks s.hp M F) (renM ρ s0.nx M) s0.hp s0.nx w:=by
 obtain ⟨g,t⟩:=h.freeze ks
 have un : ∀ k b,s0.hp k = some b -> k < s0.nx∧cvB ρ ks s0.nx s.hp (some b) (frz ks s.hp (ρ k)):=fun k b hk => by
  have:=(hl.hp k).resolve_left (by rw [hk]; simp)
  rwa [hk] at this
 have nn : ∀ k,s0.hp k ≠ none -> k < s0.nx∧frz ks s.hp (ρ k) ≠ none:=fun k hk => by
  cases hb : s0.hp k with
  | none => exact absurd hb hk
  | some b =>
   obtain ⟨h1,h2⟩:=un k b hb
   refine ⟨h1,fun e => ?_⟩
   rw [e] at h2
   cases b with
   | box cs => obtain ⟨_,h3,_⟩:=h2; cases h3
   | own et cs => obtain ⟨_,h3,_⟩:=h2; cases h3
   | res => exact h2.elim
   | arr _ _ _ => cases h2
   | mp _ => cases h2
 refine ⟨fun k cs hk => ?_,fun k sz rows lv hk => ?_,fun k et cs hk => ?_,fun k k' m m' hk hk' hm hm' e => ?_,fun k hk => ⟨?_,?_⟩,g.fl,g.hist,g.gl,g.bel,fun k m hk => g.ml (ρ k) m (renM_some hk).1,fun p hp => ⟨⟨(g.al p hp).1.1,(g.al p hp).1.2.1,fun k m hk => (g.al p hp).1.2.2 (ρ k) m (renM_some hk).1⟩,(g.al p hp).2⟩,hb,fun k hk => ((un k _ hk).2 : False).elim,fun k es hk => ?_⟩
 ·obtain ⟨hlt,vs,h1,h2⟩:=un k _ hk
  have h1' : s.hp (ρ k) = some (.box vs):=by
   rw [frz_at] at h1
   split at h1
   ·unfold frzB at h1; split at h1 <;> simp_all
   ·exact h1
  obtain ⟨m,g1,g2,g3,g4,g5,g6⟩:=h.box (ρ k) vs h1'
  obtain ⟨m',g1',_,g3',_⟩:=g.box (ρ k) vs h1
  rw [g1] at g1'; cases g1'
  have ho : ones cs = true:=hl.ones k cs (.inl hk)
  exact ⟨m,by rw [renM_lt hlt]; exact g1,g2,g3',g4,⟨g5.1,(cvs_len h2).trans g5.2⟩,RepMC.ren h cs vs 0 h2 ho g6⟩
 ·obtain ⟨hlt,h1⟩:=un k _ hk
  obtain ⟨m,g1,g0,g2,g3,g4,g5,g6,g7,g8⟩:=g.arr (ρ k) sz rows lv h1
  exact ⟨m,by rw [renM_lt hlt]; exact g1,g0,g2,g3,g4,g5,g6,g7,g8⟩
 ·obtain ⟨hlt,vs,h1,h2⟩:=un k _ hk
  have h1' : s.hp (ρ k) = some (.own et vs):=by
   rw [frz_at] at h1
   split at h1
   ·unfold frzB at h1; split at h1 <;> simp_all
   ·exact h1
  obtain ⟨m,g1,g0,g2,g3,g4,g5,g6⟩:=h.own (ρ k) et vs h1'
  obtain ⟨m',g1',_,_,g3',_⟩:=g.own (ρ k) et vs h1
  rw [g1] at g1'; cases g1'
  have ho : ones cs = true:=hl.ones k cs (.inr ⟨et,hk⟩)
  exact ⟨m,by rw [renM_lt hlt]; exact g1,g0,g2,g3',g4,by rw [cvs_len h2]; exact g5,RepMC.ren h cs vs 0 h2 ho g6⟩
 ·obtain ⟨h1,h2⟩:=nn k hk
  obtain ⟨h3,h4⟩:=nn k' hk'
  rw [renM_lt h1] at hm
  rw [renM_lt h3] at hm'
  exact hl.inj k k' hk hk' (g.inj _ _ m m' h2 h4 hm hm' e)
 ·cases hh : renM ρ s0.nx M k with
  | none => rfl
  | some m => have:=(renM_some hh).2; omega
 ·cases hh : s0.hp k with
  | none => rfl
  | some m => have:=(un k _ hh).1; omega
 ·obtain ⟨hlt,h1⟩:=un k _ hk
  obtain ⟨m,g1,g2,g3,g4⟩:=g.mp (ρ k) es h1
  exact ⟨m,by rw [renM_lt hlt]; exact g1,g2,g3,g4⟩
theorem Rel.of_leR (h : Rel c N F M s a w) (hl : LeR n s0 s ρ ks) (hb : BaseOk c (frzF ks s.hp M F) (renM ρ s0.nx M) w) : Rel c N (frzF ks s.hp M F) (renM ρ s0.nx M) s0 a w:=by
 obtain ⟨g,t⟩:=h.toHR.freeze ks
 refine ⟨h.toHR.ren hl hb,fun t ht => RepM.ren h.toHR _ _ _ (hl.tm t) (h.tm t ht),?_,h.sz⟩
 obtain ⟨d0,d1,d2,d3⟩:=h.df.tr t
 refine ⟨d0,d1,d2,fun D hD => ?_⟩
 obtain ⟨⟨g1,g2⟩,g3⟩:=d3 D hD
 exact ⟨⟨⟨g1.1,g1.2.1,fun k m hk => g1.2.2 (ρ k) m (renM_some hk).1⟩,g2⟩,g3⟩
end
end Ab
end
section
namespace Ab
open Go Go.RowKit
variable {c : Ctx} {N : Nat} {H : Tg -> List AV -> St -> (AV -> St -> Prop) -> Prop} {G : FuncId -> List AV -> St -> (List AV -> St -> (St -> Prop) -> Prop) -> (St -> Prop) -> Prop}
theorem putL_rep {w : World} {F : Foot} {M : Nat -> Option MB} : ∀ (ps : List Tmp) (vs : List AV) (us : List Value) (tm : Nat -> AV) (tmps : Array Value),RepML w F M vs us -> (∀ p ∈ ps,p < tmps.size) ->
  (∀ t,t < tmps.size -> RepM w F M (tm t) (tmps.getD t undef)) ->
  ((ps.zip us).foldl (fun t (p,v) => t.setIfInBounds p v) tmps).size = tmps.size∧∀ t,t < tmps.size -> RepM w F M (putL ps vs tm t) (((ps.zip us).foldl (fun t (p,v) => t.setIfInBounds p v) tmps).getD t undef)
 | [],vs,us,tm,tmps,_,_,h => by simpa [putL] using h
 | p :: ps,[],us,tm,tmps,hv,_,h => by
   unfold RepML at hv; subst hv
   simpa [putL] using h
 | p :: ps,v :: vs,us,tm,tmps,hv,hp,h => by
   unfold RepML at hv
   obtain ⟨u,us',rfl,h1,h2⟩:=hv
   have hps : p < tmps.size:=hp p (by simp)
   have:=putL_rep ps vs us' (fun k => bif Nat.beq k p then v else tm k) (tmps.setIfInBounds p u) h2 (fun q hq => by simpa using hp q (by simp [hq])) (fun t ht => by
    simp only [Array.size_setIfInBounds] at ht
    by_cases e : t = p
    ·subst e
     simp [hps,h1]
    ·rw [beq_ne e]
     have e' : p ≠ t:=fun h => e h.symm
     simp only [cond_false,Array.getD_eq_getD_getElem?,Array.getElem?_setIfInBounds_ne e']
     simpa using h t ht)
   simpa [putL] using this
theorem Tr.sandwich {F2 F3 : Foot} {M2 M3 : Nat -> Option MB} {w2 w3 : World} {l : Nat} {o1 o2 : Obj} (t : Tr F2 M2 (w2.putObj l o1) F3 M3 w3) (h2 : w2.heap[l]? = some o2) (hF : ¬ F2 l) (hM : ∀ k m,M2 k = some m -> m.b ≠ l) :
  Tr F2 M2 w2 F3 M3 (w3.putObj l o2):=by
 have hlt : l < w2.heap.size:=(Array.getElem?_eq_some_iff.1 h2).1
 have hsz : w2.heap.size <= w3.heap.size:=by have:=t.size; rwa [World.putObj_size] at this
 refine ⟨t.foot,fun b hb => ?_,t.map,by rw [World.putObj_size]; exact hsz,fun b hb => by have:=t.fnew b hb; rwa [World.putObj_size] at this,fun k m hk => by have:=t.mnew k m hk; rwa [World.putObj_size] at this,fun b hb hn => ?_⟩
 ·have e : b ≠ l:=fun e => hF (e ▸ hb)
  exact (World.putObj_heap_other e).trans ((t.cell b hb).trans (World.putObj_heap_other e))
 ·by_cases e : b = l
  ·subst e
   rw [h2]; exact World.putObj_heap_same (by omega)
  ·exact (World.putObj_heap_other e).trans ((t.rest b (by rw [World.putObj_size]; exact hb) hn).trans (World.putObj_heap_other e))
theorem RepM.putAlien {w : World} {F : Foot} {M : Nat -> Option MB} {l : Nat} {o : Obj} (hF : ¬ F l) {av : AV} {v : Value} (h : RepM w F M av v) : RepM (w.putObj l o) F M av v :=
 RepM.mono (fun _ h => h) (fun b hb => World.putObj_heap_other fun e => by subst e; exact hF hb) (fun _ _ h => h) _ _ h
theorem DfOk.putAlien {F : Foot} {M : Nat -> Option MB} {ds : List Deferred} {w : World} {l : Nat} {o : Obj} (h : DfOk c F M ds w) (hl : ∀ D,w.heap[D]? = some (.deferred (some [])) -> D ≠ l) (al : List (Nat × Obj)) : DfOk (c.wa al) F M ds (w.putObj l o):=by
 obtain ⟨h0,h1,h2,h3⟩:=h
 exact ⟨h0,h1,h2,fun D hD => ⟨(h3 D hD).1,(World.putObj_heap_other (hl D (h3 D hD).2)).trans (h3 D hD).2⟩⟩
theorem flagsAt_eq (n : Nat) (ops : Array Oper) (o : Oper) : flagsAt n ops o = ⟨(flags ops o).hs,(flags ops o).lim,(flags ops o).chk,(flags ops o).ky.map (Nat.add n),(flags ops o).old,(flags ops o).fz,n⟩:=by
 unfold flagsAt
 cases flags ops o with
 | mk hs lim chk ky old fz lo => cases ky <;> rfl
theorem indep_at (n : Nat) (ops : Array Oper) (x y : Oper) : indep (flagsAt n ops) ops x y = indep (flags ops) ops x y:=by
 unfold indep indep0 calm pureF turnsF readF
 simp only [flagsAt_eq]
 cases (flags ops x).ky with
 | none => cases (flags ops y).ky <;> rfl
 | some a =>
  cases (flags ops y).ky with
  | none => rfl
  | some b =>
   simp only [Option.map_some]
   congr 1
   have : Nat.beq (Nat.add n a) (Nat.add n b) = Nat.beq a b:=by
    by_cases e : a = b
    ·subst e; rw [show Nat.beq a a = true from Nat.beq_refl a]; exact Nat.beq_refl _
    ·rw [beq_ne e]; exact beq_ne fun h => e (Nat.add_left_cancel h)
   rw [this]
theorem pairsOk_at (n : Nat) (ops : Array Oper) (masks : List Nat) : ∀ l,pairsOk (flagsAt n ops) ops masks l = pairsOk (flags ops) ops masks l
 | [] => rfl
 | (i,m,o) :: l => by
   simp only [pairsOk,indep_at,pairsOk_at n ops masks l]
theorem flagsAt_old {n : Nat} {ops : Array Oper} (o : Oper) (h : (flagsAt n ops o).old = true) : turnsF (flagsAt n ops o) o.op = true:=by
 rw [flagsAt_eq] at h ⊢
 unfold turnsF
 simp only [flags] at h ⊢
 cases hc : isCall o.op with
 | false => rw [hc] at h; cases h
 | true =>
  obtain ⟨dst,op,type,pos,after,guard⟩:=o
  unfold isCall at hc
  simp only at hc ⊢
  split at hc
  ·rfl
  ·cases hc
theorem flagsAt_key {gl : List (Nat × AV)} {ops : Array Oper} {s : St} (o : Oper) (k : Nat) (h : (flagsAt s.nx ops o).ky = some k) : sees gl ops s k = false:=by
 rw [flagsAt_eq] at h
 simp only at h
 cases hk : (flags ops o).ky with
 | none => rw [hk] at h; cases h
 | some r =>
  rw [hk] at h
  simp only [Option.map_some,Option.some.injEq] at h
  have hb : Nat.blt k s.nx = false:=by
   cases hb : Nat.blt k s.nx with
   | false => rfl
   | true =>
    have:=Nat.le_of_ble_eq_true hb
    have h : s.nx + r = k:=h
    omega
  unfold sees
  rw [hb]; rfl
theorem flagsAt_lo {ops : Array Oper} {n : Nat} (o : Oper) (k : Nat) (h : (flagsAt n ops o).ky = some k) (o' : Oper) : Nat.blt k (flagsAt n ops o').lo = false:=by
 rw [flagsAt_eq] at h ⊢
 simp only at h ⊢
 cases hk : (flags ops o).ky with
 | none => rw [hk] at h; cases h
 | some r =>
  rw [hk] at h
  simp only [Option.map_some,Option.some.injEq] at h
  cases hb : Nat.blt k n with
  | false => rfl
  | true =>
   have:=Nat.le_of_ble_eq_true hb
   have h : n + r = k:=h
   omega
theorem Rel.kept {N : Nat} {F : Foot} {M : Nat -> Option MB} {a : Act} {w : World} : ∀ (n : Nat) {s : St},Rel c N F M s a w -> Rel c N F M (Ab.kept n s) a w
 | 0,s,h => h
 | n + 1,s,h => by
   unfold Ab.kept
   exact Rel.kept n ⟨h.toHR.keep1,h.tm,h.df,h.sz⟩
theorem deferR_ok {ops : List Oper} {d f : Nat} {cap : List Operand} (h : deferR ops = some (d,f,cap)) : ∃ t0 t1 p0 p1 e0 e1 ts,ops = [{ dst:=some d,op:=.makeFunc (.func f) #[] ⟨cap⟩,type:=t0,pos:=p0,after:=e0,guard:=none },{ dst:=none,op:=.defer { callee:=.value (.tmp d),args:=#[],argTypes:=ts },type:=t1,pos:=p1,after:=e1,guard:=none }]:=by
 unfold deferR at h
 split at h
 ·split at h
  ·rename_i hb
   have:=Nat.eq_of_beq_eq_true hb
   subst this
   cases h
   exact ⟨_,_,_,_,_,_,_,rfl⟩
  ·cases h
 ·cases h
theorem defer_sound {c : Ctx} (hx : c.dx = none) {N : Nat} {F : Foot} {M : Nat -> Option MB} {s : St} {a : Act} {w : World} {QA : Exit -> St -> Prop} {ops : Array Oper} {d f : Nat} {cap : List Operand} (hd : deferR ops.toList = some (d,f,cap))
  (hok : and (Nat.blt d N) (and (cap.all (opndOk N)) (quietFn c.P f cap.length)) = true) (hK : forceL (evs c.gl s cap) fun cs => QA .normal (put (some d) (.fn f cs) s)) (h : Rel c N F M s a w) :
  wpOpsIn (Fw none) 0 c.P ops (CPost c N F M w QA) (List.range ops.size) a w:=by
 simp only [Bool.and_eq_true] at hok
 obtain ⟨h1,h2,h3⟩:=hok
 obtain ⟨t0,t1,p0,p1,e0,e1,ts,e⟩:=deferR_ok hd
 have he : ops = #[{ dst:=some d,op:=.makeFunc (.func f) #[] ⟨cap⟩,type:=t0,pos:=p0,after:=e0,guard:=none },{ dst:=none,op:=.defer { callee:=.value (.tmp d),args:=#[],argTypes:=ts },type:=t1,pos:=p1,after:=e1,guard:=none }]:=by
  rw [show ops = ⟨ops.toList⟩ from rfl,e]
 subst he
 have hdN : d < N:=blt_lt h1
 have hcap : ∀ x ∈ cap,∀ t,x = .tmp t -> t < N:=fun x hx => opndOk_lt (List.all_eq_true.1 h2 x hx)
 rw [forceL_eq] at hK
 have hlen : (cap.map a.eval).length = cap.length:=by simp
 have hr:=h.put (d:=some d) (av:=.fn f (evs c.gl s cap)) (v:=.func (.func f) #[] ⟨cap.map a.eval⟩) (fun t e => by cases e; exact hdN) (by unfold RepM; exact ⟨_,rfl,h.evs _ hcap⟩)
 have hv : (a.put (some d) (.func (.func f) #[] ⟨cap.map a.eval⟩)).eval (.tmp d) = .func (.func f) #[] ⟨cap.map a.eval⟩:=by
  have : d < a.tmps.size:=by rw [h.sz]; exact hdN
  simp [Act.put,Act.eval,Array.getD,this]
 rw [show List.range (#[_,_] : Array Oper).size = [0,1] from rfl]
 simp only [wpOpsIn,List.getElem?_toArray,List.getElem?_cons_zero,List.getElem?_cons_succ,Region.wanted,if_true]
 refine ⟨fun _ _ => trivial,?_⟩
 have r1 : (Oper.semAt (Fw none).round a.eval { dst:=some d,op:=.makeFunc (.func f) #[] ⟨cap⟩,type:=t0,pos:=p0,after:=e0,guard:=none }).run c.P w = .ok (.value (.func (.func f) #[] ⟨cap.map a.eval⟩)) w:=by
  rw [show (Fw none).round = none from rfl,Oper.semAt_none]
  simp [execOp,Instr.makeFunc]
 rw [r1,Oper.uponIn_value]
 refine ⟨fun _ _ => trivial,?_⟩
 have r2 : (Oper.semAt (Fw none).round (a.put (some d) (.func (.func f) #[] ⟨cap.map a.eval⟩)).eval { dst:=none,op:=.defer { callee:=.value (.tmp d),args:=#[],argTypes:=ts },type:=t1,pos:=p1,after:=e1,guard:=none }).run c.P w = .ok (.defer { target:=.fn (.func f) ⟨cap.map a.eval⟩,args:=#[] }) w:=by
  rw [show (Fw none).round = none from rfl,Oper.semAt_none]
  simp [execOp,resolve,hv,Deferred.ofValue]
 rw [r2,Oper.uponIn_defer]
 refine ⟨_,F,M,⟨hr.toHR,hr.tm,?_,hr.sz⟩,Tr.refl F M w,hK⟩
 exact hr.df.quiet hx (quiet_of (by rw [hlen]; exact h3))
theorem awC_sound {HD : Tg -> List AV -> St -> (AV -> St -> Prop) -> Prop} (hT : TOk c.P c.T) (hM : HMakes HD) (hmo : c.P.follows .mixedOrders = true) (A : List (Nat × Obj) -> Prop) (hHD : ∀ al,A al -> HSound (c.wa al) HD) (hH : ∀ al,A al -> HSound (c.wa al) H)
  (hG : (∀ f cap s r K,¬ G f cap s r K) ∨ ((∀ al,A al)∧∀ al,GSound (c.wa al) G)) :
  ∀ (cd : Code) (al : List (Nat × Obj)) (ro : Option Nat),A al -> (ro = none ∨ noRange cd = true) -> (c.dx = none ∨ noRange cd = true) -> codeOk c.P N cd = true -> ∀ (s : St) (QA : Exit -> St -> Prop) (F : Foot) (M : Nat -> Option MB) (a : Act) (w : World),
  awC c.T c.gl HD H G cd s QA -> Rel (c.wa al) N F M s a w -> cd.wpIn (Fw ro) 0 c.P (CPost (c.wa al) N F M w QA) a w
 | .skip,al,ro,hA,hro,hdx,_,s,QA,F,M,a,w,hK,h => wpIn_skip ⟨s,F,M,h,Tr.refl F M w,hK⟩
 | .exit id,al,ro,hA,hro,hdx,_,s,QA,F,M,a,w,hK,h => wpIn_exit ⟨s,F,M,h,Tr.refl F M w,hK⟩
 | .ret,al,ro,hA,hro,hdx,_,s,QA,F,M,a,w,hK,h => wpIn_ret ⟨s,F,M,h,Tr.refl F M w,hK⟩
 | .region id ops false,al,ro,hA,hro,hdx,hok,s,QA,F,M,a,w,hK,h => by
   refine wpIn_region ?_
   unfold codeOk at hok
   unfold awC at hK
   unfold noRange at hro hdx
   cases hd : deferR ops.toList with
   | none =>
    rw [hd] at hok hK
    rw [List.range_eq_range']
    exact aOps_sound (c:=c.wa al) (K:=QA .normal) hT (hHD al hA) (hH al hA) hok (fun s' F' M' a' w' r t k => ⟨s',F',M',r,t,k⟩) ops.size 0 s F M a w (by omega) (by simpa using hK) h (Tr.refl F M w)
   | some p =>
    obtain ⟨d,f,cap⟩:=p
    rw [hd] at hok hK hro hdx
    have hro' : ro = none:=hro.resolve_right (by simp)
    subst hro'
    exact defer_sound (c:=c.wa al) (hdx.resolve_right (by simp)) hd hok hK h
 | .region id ops true,al,ro,hA,hro,hdx,hok,s,QA,F,M,a,w,hK,h => by
   unfold awC at hK
   obtain ⟨hd,hK⟩:=hK
   refine wpIn_region_any hmo ?_
   obtain ⟨hr',ht'⟩:=h.toHR.keep (w':={ w with drawn:=w.drawn + 1 }) (fun _ _ => rfl) (fun _ h => h) (fun _ h => .inl h) h.fl (h.bel.trans ⟨rfl,rfl,rfl,Nat.le_refl _,fun _ _ => rfl⟩)
   have hr : Rel (c.wa al) N F M s a { w with drawn:=w.drawn + 1 }:=⟨hr',fun t ht => (h.tm t ht).tr ht',h.df.tr ht',h.sz⟩
   have hfil : ((numbered ops.toList (aheadOf ops.toList) 0).filter fun p => !(Array.replicate ops.size false).getD p.1 true) = numbered ops.toList (aheadOf ops.toList) 0:=by
    refine List.filter_eq_self.2 fun p hp => ?_
    obtain ⟨i,m,o⟩:=p
    obtain ⟨_,h2,_⟩:=mem_numbered hp
    have hlt : i < ops.size:=by
     have : ops[i]? = some o:=by simpa using h2
     exact (Array.getElem?_eq_some_iff.1 this).1
    simp [hlt]
   refine any_sound (c:=c.wa al) (p:=sees c.gl ops s) (K:=QA .normal) (masks:=aheadOf ops.toList) hT (hHD al hA) hM (hH al hA) (fl:=flagsAt s.nx ops) (fun o h => flagsAt_old o h) (fun o k h => ⟨flagsAt_key o k h,flagsAt_lo o k h⟩) (aheadOf_length _) hok (pairsOk_good (by rw [pairsOk_at]; exact hd)) (fun s' F' M' a' w' r t k => ⟨s',F',M',r,t,k⟩) ops.size (Array.replicate ops.size false) (Ab.kept (keptN ops) s) F M a _ (by simp) ?_ ?_ ?_ (hr.kept _) ht'
   ·intro j k m hj
    exfalso
    simp only [Array.getD_eq_getD_getElem?,Array.getElem?_replicate] at hj
    split at hj <;> simp at hj
   ·rw [hfil]
    have:=congrArg List.length (numbered_map (l:=ops.toList) (ms:=aheadOf ops.toList) (i:=0) (aheadOf_length _))
    simp at this ⊢
    omega
   ·rw [hfil,numbered_map (aheadOf_length _)]
    exact hK
 | .seq x y,al,ro,hA,hro,hdx,hok,s,QA,F,M,a,w,hK,h => by
   unfold codeOk at hok
   simp only [Bool.and_eq_true] at hok
   unfold awC at hK
   refine wpIn_seq (wpIn_mono (awC_sound hT hM hmo A hHD hH hG x al ro hA (hro.imp (fun h => h) fun h => by simp only [noRange,Bool.and_eq_true] at h; exact h.1) (hdx.imp (fun h => h) fun h => by simp only [noRange,Bool.and_eq_true] at h; exact h.1) hok.1 s _ F M a w hK h) fun e a' w' hq => ?_)
   obtain ⟨s',F',M',r,t,k⟩:=hq
   cases e with
   | normal =>
    refine wpIn_mono (awC_sound hT hM hmo A hHD hH hG y al ro hA (hro.imp (fun h => h) fun h => by simp only [noRange,Bool.and_eq_true] at h; exact h.2) (hdx.imp (fun h => h) fun h => by simp only [noRange,Bool.and_eq_true] at h; exact h.2) hok.2 s' QA F' M' a' w' k r) fun e' a'' w'' hq' => ?_
    obtain ⟨s'',F'',M'',r',t',k'⟩:=hq'
    exact ⟨s'',F'',M'',r',t.trans t',k'⟩
   | _ => exact ⟨s',F',M',r,t,k⟩
 | .cond x y z,al,ro,hA,hro,hdx,hok,s,QA,F,M,a,w,hK,h => by
   unfold codeOk at hok
   simp only [Bool.and_eq_true] at hok
   unfold awC at hK
   have hx:=h.ev x (opndOk_lt hok.1)
   generalize ev c.gl s x = ax at hx hK
   cases ax with
   | bool b =>
    unfold RepM at hx
    refine wpIn_cond hx ?_
    cases b with
    | true => exact awC_sound hT hM hmo A hHD hH hG y al ro hA (hro.imp (fun h => h) fun h => by simp only [noRange,Bool.and_eq_true] at h; exact h.1) (hdx.imp (fun h => h) fun h => by simp only [noRange,Bool.and_eq_true] at h; exact h.1) hok.2.1 s QA F M a w (hK.1 rfl) h
    | false => exact awC_sound hT hM hmo A hHD hH hG z al ro hA (hro.imp (fun h => h) fun h => by simp only [noRange,Bool.and_eq_true] at h; exact h.2) (hdx.imp (fun h => h) fun h => by simp only [noRange,Bool.and_eq_true] at h; exact h.2) hok.2.2 s QA F M a w (hK.2 rfl) h
   | _ => exact hK.elim
 | .block id x,al,ro,hA,hro,hdx,hok,s,QA,F,M,a,w,hK,h => by
   unfold codeOk at hok
   unfold awC at hK
   refine wpIn_block (wpIn_mono (awC_sound hT hM hmo A hHD hH hG x al ro hA (hro.imp (fun h => h) fun h => by simpa only [noRange] using h) (hdx.imp (fun h => h) fun h => by simpa only [noRange] using h) hok s _ F M a w hK h) fun e a' w' hq => ?_)
   obtain ⟨s',F',M',r,t,k⟩:=hq
   cases e with
   | exit i =>
    simp only at k
    simp only [Exit.inBlock]
    by_cases e : i = id
    ·subst e
     rw [if_pos rfl]
     rw [show Nat.beq i i = true from Nat.beq_refl i] at k
     exact ⟨s',F',M',r,t,k⟩
    ·rw [if_neg e]
     rw [beq_ne e] at k
     exact ⟨s',F',M',r,t,k⟩
   | _ => exact ⟨s',F',M',r,t,k⟩
 | .loop x,al,ro,hA,hro,hdx,hok,s,QA,F,M,a,w,hK,h => by
   unfold codeOk at hok
   unfold awC at hK
   obtain ⟨I,μ,⟨s0,hl,hI⟩,hround⟩:=hK
   have hd : ∀ k,s.nx <= k -> M k = none:=fun k hk => (h.dom k hk).1
   have weak : ∀ (a' : Act) (w' : World) (s'' s1 : St) (F'' : Foot) (M'' : Nat -> Option MB),Rel (c.wa al) N F'' M'' s'' a' w' -> Tr F M w F'' M'' w' -> LeL s.nx s1 s'' -> ∃ F3 M3,Rel (c.wa al) N F3 M3 s1 a' w'∧Tr F M w F3 M3 w':=by
    intro a' w' s'' s1 F'' M'' r' t hl1
    rcases hl1 with hl1 | hl1 | ⟨ρ,ks,hl1⟩
    ·exact ⟨F'',M'',r'.of_le hl1,t⟩
    ·have tc:=t.cut hd
     exact ⟨F'',cutM s.nx M'',r'.of_leC hl1 (h.base.tr tc),tc⟩
    ·have tc:=t.ren (ks:=ks) (hp:=s''.hp) hd hl1.id hl1.nx
     exact ⟨_,_,r'.of_leR hl1 (h.base.tr tc),tc⟩
   obtain ⟨F3,M3,r3,t3⟩:=weak a w s s0 F M h (Tr.refl F M w) hl
   refine wp_loop' (fun n a' w' => ∃ s' F' M',Rel (c.wa al) N F' M' s' a' w'∧Tr F M w F' M' w'∧I s'∧μ s' = n) ?_ ⟨s0,F3,M3,r3,t3,hI,rfl⟩
   rintro n a' w' ⟨s',F',M',r,t,hI',rfl⟩
   refine wpIn_mono (awC_sound hT hM hmo A hHD hH hG x al ro hA (hro.imp (fun h => h) fun h => by simpa only [noRange] using h) (hdx.imp (fun h => h) fun h => by simpa only [noRange] using h) hok s' _ F' M' a' w' (hround s' hI') r) fun e a'' w'' hq => ?_
   obtain ⟨s'',F'',M'',r',t',k⟩:=hq
   cases e with
   | normal =>
    obtain ⟨s1,hl1,hI1,hm⟩:=k
    obtain ⟨F4,M4,r4,t4⟩:=weak a'' w'' s'' s1 F'' M'' r' (t.trans t') hl1
    exact ⟨_,hm,s1,F4,M4,r4,t4,hI1,rfl⟩
   | _ => exact ⟨s'',F'',M'',r',t.trans t',k⟩
 | .rangeFunc g ps assign body,al,ro,hA,hro,hdx,hok,s,QA,F,M,a,w,hK,h => by
   have hro' : ro = none:=hro.resolve_right (by simp [noRange])
   subst hro'
   have hdx0 : c.dx = none:=hdx.resolve_right (by simp [noRange])
   simp only [codeOk,Bool.and_eq_true] at hok
   obtain ⟨⟨hg0,hps⟩,⟨hoa,hna⟩,hob,hnb⟩:=hok
   unfold awC at hK
   have hx:=h.ev g (opndOk_lt hg0)
   generalize hga : ev c.gl s g = ag at hK
   rw [show ev (c.wa al).gl s g = ag from hga] at hx
   cases ag with
   | fn f cap =>
    simp only at hK
    have hG':=hG.resolve_left fun hn => hn _ _ _ _ _ hK
    have hbl : ∀ b,c.base = some b -> b.2.2.heap.size <= w.heap.size + 1:=fun b hb => Nat.le_succ_of_le (h.base b hb).1.size
    unfold RepM at hx
    obtain ⟨caps,hgv,hcap⟩:=hx
    refine wpIn_rangeFunc ?_
    intro fn hfn
    obtain ⟨rec,hrec⟩ : ∃ rec : LoopState -> Loop,rec = fun st => { state:=st,pending:=none,fn,tmps:=a.tmps,params:=ps,assign,body,defers:=w.heap.size }:=⟨_,rfl⟩
    obtain ⟨W1,hW1⟩ : ∃ W1,(w.alloc (.deferred (some []))).alloc (.loop (rec .ready)) = W1:=⟨_,rfl⟩
    have hsz1 : W1.heap.size = w.heap.size + 2:=by rw [<- hW1]; simp
    have hL1 : W1.heap[w.heap.size + 1]? = some (.loop (rec .ready)):=by
     rw [<- hW1]; have:=World.alloc_heap_new (w.alloc (.deferred (some []))) (.loop (rec .ready)); rwa [World.size_alloc] at this
    have hD1 : W1.heap[w.heap.size]? = some (.deferred (some [])):=by
     rw [<- hW1]; exact (Below.heap_alloc _ _ _ (by simp)).trans (World.alloc_heap_new w _)
    have hold : ∀ b,b < w.heap.size -> W1.heap[b]? = w.heap[b]?:=fun b hb => by
     rw [<- hW1]; exact (Below.heap_alloc _ _ _ (by simp; omega)).trans (Below.heap_alloc _ _ _ hb)
    have hB1 : Below c.w0.heap.size c.w0 W1:=by
     rw [<- hW1]
     have h1:=h.bel.alloc h.bel.size (.deferred (some []))
     exact h1.alloc h1.size _
    obtain ⟨k1,k2⟩:=h.toHR.keep (w':=W1) (F':=F) hold (fun _ h => h) (fun _ h => .inl h) (fun b hb => by have:=h.fl b hb; omega) hB1
    have hbs : c.w0.heap.size <= w.heap.size:=h.bel.size
    have aD : Alien c F M w.heap.size:=⟨hbs,fun hf => by have:=h.fl _ hf; omega,fun k m hk e => by have:=h.ml k m hk; omega⟩
    have aL : Alien c F M (w.heap.size + 1):=⟨by omega,fun hf => by have:=h.fl _ hf; omega,fun k m hk e => by have:=h.ml k m hk; omega⟩
    obtain ⟨alR,halR⟩ : ∃ alR : List (Nat × Obj),alR = (w.heap.size + 1,.loop (rec .ready)) :: (w.heap.size,.deferred (some [])) :: al:=⟨_,rfl⟩
    obtain ⟨alB,halB⟩ : ∃ alB : List (Nat × Obj),alB = (w.heap.size + 1,.loop (rec .busy)) :: (w.heap.size,.deferred (some [])) :: al:=⟨_,rfl⟩
    have hne : ∀ p ∈ al,p.1 < w.heap.size:=fun p hp => (Array.getElem?_eq_some_iff.1 (h.al p hp).2).1
    have k3 : HR (c.wa alR) F M s.hp s.nx W1:=k1.other alR (fun _ _ => rfl) (Nat.le_refl _) hB1 (by
     rw [halR]
     intro p hp
     rcases List.mem_cons.1 hp with e | hp
     ·subst e; exact ⟨aL,hL1⟩
     ·rcases List.mem_cons.1 hp with e | hp
      ·subst e; exact ⟨aD,hD1⟩
      ·exact ⟨(h.al p hp).1,(hold _ (hne p hp)).trans (h.al p hp).2⟩) k1.base
    have hmR : (w.heap.size + 1,Obj.loop (rec .ready)) ∈ alR:=by rw [halR]; simp
    have hmB : (w.heap.size + 1,Obj.loop (rec .busy)) ∈ alB:=by rw [halB]; simp
    have hmD : (w.heap.size,Obj.deferred (some [])) ∈ alR:=by rw [halR]; simp
    have toB : ∀ p ∈ alB,p = (w.heap.size + 1,Obj.loop (rec .busy)) ∨ (p.1 ≠ w.heap.size + 1∧p ∈ alR):=by
     rw [halB,halR]
     intro p hp
     rcases List.mem_cons.1 hp with e | hp
     ·exact .inl e
     ·rcases List.mem_cons.1 hp with e | hp
      ·subst e; exact .inr ⟨by simp,by simp⟩
      ·exact .inr ⟨by have:=hne p hp; omega,by simp [hp]⟩
    have toR : ∀ p ∈ alR,p = (w.heap.size + 1,Obj.loop (rec .ready)) ∨ (p.1 ≠ w.heap.size + 1∧p ∈ alB):=by
     rw [halB,halR]
     intro p hp
     rcases List.mem_cons.1 hp with e | hp
     ·exact .inl e
     ·rcases List.mem_cons.1 hp with e | hp
      ·subst e; exact .inr ⟨by simp,by simp⟩
      ·exact .inr ⟨by have:=hne p hp; omega,by simp [hp]⟩
    have toA : ∀ p ∈ al,p = (w.heap.size + 1,Obj.loop (rec .exhausted)) ∨ (p.1 ≠ w.heap.size + 1∧p ∈ alR):=by
     rw [halR]
     intro p hp
     exact .inr ⟨by have:=hne p hp; omega,by simp [hp]⟩
    have hround : RoundOk (c.wa alR) (w.heap.size + 1) F M W1 (fun args st K => match Nat.beq (lenL args) (ps.toList.length) with
     | true => awC c.T c.gl HD H G assign ⟨putL ps.toList args s.tm,st.hp,st.nx⟩ fun e s1 => match e with
      | .normal => awC c.T c.gl HD H G body s1 fun e s2 => match e with
       | .normal => K ⟨st.tm,s2.hp,s2.nx⟩
       | _ => False
      | _ => False
     | false => False):=by
     intro args vals s1 K1 F1 M1 w1 hr1 h1 t1 hv1
     simp only at hr1
     cases hbq : Nat.beq (lenL args) ps.toList.length with
     | false => rw [hbq] at hr1; exact hr1.elim
     | true =>
      rw [hbq] at hr1
      simp only at hr1
      have hlen:=Nat.eq_of_beq_eq_true hbq
      rw [lenL_eq] at hlen
      obtain ⟨al1,hl1⟩:=h1.al _ hmR
      have hlt1 : w.heap.size + 1 < w1.heap.size:=(Array.getElem?_eq_some_iff.1 hl1).1
      have hvl:=RepML.len _ _ hv1
      have hy:=run_yield (P:=c.P) (args:=(⟨vals⟩ : Array Value)) hl1 (by rw [hrec]; simp at hlen ⊢; omega)
      rw [hrec] at hy
      refine ⟨fn,_,assign,body,hy,roundIn_of_wpIn hfn ?_⟩
      have htm : ∀ t,t < a.tmps.size -> RepM w1 F1 M1 (s.tm t) (a.tmps.getD t undef):=fun t ht => (h.tm t (by rw [<- h.sz]; exact ht)).tr (k2.trans t1)
      have hpl:=putL_rep ps.toList args vals s.tm a.tmps hv1 (fun p hp => by rw [h.sz]; exact Nat.le_of_ble_eq_true (List.all_eq_true.1 hps p hp)) htm
      have hzip : (ps.zip (⟨vals⟩ : Array Value)).foldl (fun t (p,v) => t.setIfInBounds p v) a.tmps = (ps.toList.zip vals).foldl (fun t (p,v) => t.setIfInBounds p v) a.tmps:=by
       rw [<- Array.foldl_toList]; simp
      rw [hzip]
      have hrel : Rel (c.wa alR) N F1 M1 ⟨putL ps.toList args s.tm,s1.hp,s1.nx⟩ { tmps:=(ps.toList.zip vals).foldl (fun t (p,v) => t.setIfInBounds p v) a.tmps,defers:=[] } w1 :=
       ⟨h1,fun t ht => hpl.2 t (by rw [h.sz]; exact ht),DfOk.nil (fun D h => by rw [show (c.wa alR).dx = c.dx from rfl,hdx0] at h; cases h),hpl.1.trans h.sz⟩
      refine wpIn_mono (awC_sound hT hM hmo A hHD hH (.inr hG') assign alR (some (w.heap.size + 1)) (hG'.1 _) (.inr hna) (.inl hdx0) hoa _ _ F1 M1 _ w1 hr1 hrel) fun e a2 w2 hq => ?_
      obtain ⟨s2,F2,M2,r2,t2,hq⟩:=hq
      cases e with
      | normal =>
       obtain ⟨al2,hl2⟩:=r2.al _ hmR
       have hlt2 : w.heap.size + 1 < w2.heap.size:=(Array.getElem?_eq_some_iff.1 hl2).1
       have hbr:=run_beginRound (P:=c.P) hl2 (by rw [hrec])
       have hbusy : ({ rec .ready with state:=.busy } : Loop) = rec .busy:=by rw [hrec]
       rw [hbusy] at hbr
       refine ⟨_,hbr,?_⟩
       have r2b : HR (c.wa alB) F2 M2 s2.hp s2.nx (w2.putObj (w.heap.size + 1) (.loop (rec .busy))):=r2.toHR.putAlien al2 hlt2 _ alB toB hbl
       have rel2 : Rel (c.wa alB) N F2 M2 s2 a2 (w2.putObj (w.heap.size + 1) (.loop (rec .busy))) :=
        ⟨r2b,fun t ht => (r2.tm t ht).putAlien al2.2.1,r2.df.putAlien (fun D hD e => by rw [e,hl2] at hD; cases hD) alB,r2.sz⟩
       refine wpIn_mono (awC_sound hT hM hmo A hHD hH (.inr hG') body alB (some (w.heap.size + 1)) (hG'.1 _) (.inr hnb) (.inl hdx0) hob _ _ F2 M2 _ _ hq rel2) fun e a3 w3 hq3 => ?_
       obtain ⟨s3,F3,M3,r3,t3,hq3⟩:=hq3
       cases e with
       | normal =>
        obtain ⟨al3,hl3⟩:=r3.al _ hmB
        have hlt3 : w.heap.size + 1 < w3.heap.size:=(Array.getElem?_eq_some_iff.1 hl3).1
        have hen:=run_endRound (P:=c.P) none hl3
        have hrd : ({ rec .busy with state:=if (none : Option Code).isNone then .ready else .done,pending:=none } : Loop) = rec .ready:=by rw [hrec]; rfl
        rw [hrd] at hen
        exact ⟨_,_,hen,rfl,⟨s1.tm,s3.hp,s3.nx⟩,F3,M3,rfl,r3.toHR.putAlien al3 hlt3 _ alR toR hbl,t2.trans (t3.sandwich hl2 al2.2.1 al2.2.2),hq3⟩
       | _ => exact hq3.elim
      | _ => exact hq.elim
    obtain ⟨he,hc⟩:=hG'.2 alR f cap s _ _ F M W1 caps (w.heap.size + 1) hK k3 (hcap.tr k2) hround
    refine ⟨w.heap.size + 1,[{ target:=.collected w.heap.size,args:=#[] }],W1,{ target:=.fn (.func f) ⟨caps⟩,args:=#[.func (.yield (w.heap.size + 1)) #[] #[]] },W1,f,
     ⟨.func (.yield (w.heap.size + 1)) #[] #[] :: caps⟩,W1,?_,?_,fun _ _ => trivial,?_,fun h => by simp [Fw] at h,?_⟩
    ·rw [<- hW1,hrec]; exact run_enterLoop_outer _ _ _ _ _
    ·simp only [resolve,hgv]
     simp [go_sem]
    ·unfold enters at he
     cases hf : c.P.funcs[f]? with
     | none => rw [show (c.wa alR).P.funcs[f]? = none from hf] at he; cases he
     | some fd =>
      rw [show (c.wa alR).P.funcs[f]? = some fd from hf] at he
      simp only [Bool.and_eq_true,Bool.not_eq_true'] at he
      obtain ⟨bd,hb⟩:=Option.isSome_iff_exists.1 he.2
      have hn : fd.name ≠ "runtime.NumGoroutine" := by
       intro e; rw [e] at he; simp at he
      simp [invoke,callFunc,hf,hn,hb]
    ·have hc' : CallsIn Fence.wide 0 c.P f ⟨.func (.yield (w.heap.size + 1)) #[] #[] :: caps⟩ W1 _:=callsIn_wide.2 hc
     have hc2 : CallsIn (Fw none) (0 - 1) c.P f ⟨.func (.yield (w.heap.size + 1)) #[] #[] :: caps⟩ W1 _:=hc'
     refine CallsIn.mono hc2 fun e w' hh => ?_
     obtain ⟨v,s',F',M',rfl,h',t',hq⟩:=hh
     obtain ⟨alE,hlE⟩:=h'.al _ hmR
     obtain ⟨alD,hlD⟩:=h'.al _ hmD
     have hltE : w.heap.size + 1 < w'.heap.size:=(Array.getElem?_eq_some_iff.1 hlE).1
     have hen:=run_endLoop (P:=c.P) hlE (by rw [hrec]; simp)
     have hpn : (rec .ready).pending = none:=by rw [hrec]
     have hex : ({ rec .ready with state:=.exhausted } : Loop) = rec .exhausted:=by rw [hrec]
     rw [hex,hpn] at hen
     refine ⟨none,_,hen,⟨s.tm,s'.hp,s'.nx⟩,F',M',⟨h'.putAlien alE hltE _ al toA hbl,fun t ht => ((h.tm t ht).tr (k2.trans t')).putAlien alE.2.1,?_,h.sz⟩,(k2.trans t').alter (by omega) h.fl,hq⟩
     have hdf:=h.df.tr (k2.trans t')
     have hdl : ∀ D,w'.heap[D]? = some (.deferred (some [])) -> D ≠ w.heap.size + 1:=fun D hD e => by rw [e,hlE] at hD; cases hD
     have hdf2:=hdf.putAlien (o:=.loop (rec .exhausted)) hdl al
     obtain ⟨_,d1,d2,d3⟩:=hdf2
     obtain ⟨_,e1,e2,e3⟩:=h.df
     show DfOk _ _ _ (mark w.heap.size :: a.defers) _
     refine ⟨fun D h => (by rw [show (c.wa al).dx = c.dx from rfl,hdx0] at h; cases h),fun d hd => ?_,?_,fun D hD => ?_⟩
     ·rcases List.mem_cons.1 hd with e | hd
      ·exact .inl ⟨_,e⟩
      ·exact d1 d hd
     ·rw [dmarks_mark]
      refine List.nodup_cons.2 ⟨fun hm => ?_,d2⟩
      have:=(Array.getElem?_eq_some_iff.1 (e3 _ hm).2).1
      omega
     ·rw [dmarks_mark] at hD
      rcases List.mem_cons.1 hD with e | hD
      ·subst e
       exact ⟨⟨alD,fun b hb => (h.base b hb).1.size⟩,(World.putObj_heap_other (by omega)).trans hlD⟩
      ·exact d3 D hD
   | _ => exact hK.elim
 | .scope _,al,ro,hA,hro,hdx,_,s,QA,F,M,a,w,hK,h => by unfold awC at hK; exact hK.elim
 | .label _,al,ro,hA,hro,hdx,_,s,QA,F,M,a,w,hK,h => by unfold awC at hK; exact hK.elim
 | .goto _,al,ro,hA,hro,hdx,_,s,QA,F,M,a,w,hK,h => by unfold awC at hK; exact hK.elim
 | .refuse _,al,ro,hA,hro,hdx,_,s,QA,F,M,a,w,hK,h => by unfold awC at hK; exact hK.elim
end Ab
end
section
namespace Ab
open Go Go.RowKit
def GlOk (w : World) (F : Foot) (gl : List (Nat × AV)) : Prop:=∀ g av,look gl g = some av -> RepM w F (fun _ => none) av (.pointer (some ⟨g,0,none⟩))
def Spec (P : Program) (gl : List (Nat × AV)) (f : FuncId) (ds : List AV) (r : AV) : Prop :=
 ∀ (w : World) (F : Foot) (vals : List Value),(∀ b,F b -> b < w.heap.size) -> GlOk w F gl -> RepDL w F ds vals ->
  Does P f ⟨vals⟩ w fun e w' => ∃ v,e = .returned v∧RepD w' (fun b => F b ∨ (w.heap.size <= b∧b < w'.heap.size)) r v∧Below w.heap.size w w'
def plain : AV -> Bool
 | .int _ _ | .bool _ | .str _ => true
 | _ => false
def plains : List AV -> Bool
 | [] => true
 | v :: vs => and (plain v) (plains vs)
def plainR : AV -> Bool
 | .tup vs => plains vs
 | v => plain v
def callS (P : Program) (gl : List (Nat × AV)) (f : Tg) (args : List AV) (s : St) (K : AV -> St -> Prop) : Prop :=
 match f with
 | .fn f => match boxy s.hp args with
  | false => toDAs s.hp args fun ds => ∃ r,Spec P gl f ds r∧match plainR r with | true => K r s | false => K r ⟨s.tm,frz (keysAs args) s.hp,s.nx⟩
  | true => toPs s.hp args fun ds => ∃ r,Spec P gl f ds r∧match plainR r with | true => K r s | false => False
 | .yl _ => False
section
variable {k : Nat} {b : Option Blk} {hp : Nat -> Option Blk}
theorem toD_upd {v : AV} (h : k ∉ keys v) : toD (upd k b hp) v = toD hp v:=by
 cases v with
 | ms j off n =>
  have : j ≠ k:=fun e => h (by simp [keys,e])
  funext K
  simp only [toD,upd_ne this]
 | _ => rfl
theorem toDs_upd : ∀ {l : List AV},k ∉ keysL l -> toDs (upd k b hp) l = toDs hp l
 | [],_ => rfl
 | v :: l,h => by
   have h1 : k ∉ keys v:=fun e => h (by simp [keysL,e])
   have h2 : k ∉ keysL l:=fun e => h (by simp [keysL,e])
   funext K
   simp only [toDs,toD_upd h1,toDs_upd h2]
theorem toDA_upd {v : AV} (h : k ∉ keysA v) : toDA (upd k b hp) v = toDA hp v:=by
 cases v with
 | agg cs => funext K; simp only [toDA,toDs_upd (show k ∉ keysL cs from h)]
 | tup cs => rfl
 | ms j o n => exact toD_upd (v:=.ms j o n) h
 | _ => rfl
theorem toDAs_upd : ∀ {l : List AV},k ∉ keysAs l -> toDAs (upd k b hp) l = toDAs hp l
 | [],_ => rfl
 | v :: l,h => by
   have h1 : k ∉ keysA v:=fun e => h (by simp [keysAs,e])
   have h2 : k ∉ keysAs l:=fun e => h (by simp [keysAs,e])
   funext K
   simp only [toDAs,toDA_upd h1,toDAs_upd h2]
theorem isBox_upd {v : AV} (h : k ∉ keysA v) : isBox (upd k b hp) v = isBox hp v:=by
 cases v with
 | ms j off n =>
  have : j ≠ k:=fun e => h (by simp [keysA,keys,e])
  simp only [isBox,upd_ne this]
 | _ => rfl
theorem boxy_upd : ∀ {l : List AV},k ∉ keysAs l -> boxy (upd k b hp) l = boxy hp l
 | [],_ => rfl
 | v :: l,h => by
   have h1 : k ∉ keysA v:=fun e => h (by simp [keysAs,e])
   have h2 : k ∉ keysAs l:=fun e => h (by simp [keysAs,e])
   simp only [boxy,isBox_upd h1,boxy_upd h2]
theorem frz_upd {ks : List Nat} (h : k ∉ ks) : frz ks (upd k b hp) = upd k b (frz ks hp):=by
 funext j
 rw [frz_at]
 by_cases e : j = k
 ·subst e; rw [if_neg h,upd_same,upd_same]
 ·rw [upd_ne e,upd_ne e,frz_at]
theorem toP_upd {v : AV} (h : k ∉ keysA v) : toP (upd k b hp) v = toP hp v:=by
 cases v with
 | ms j off n =>
  have hj : j ≠ k:=fun e => h (by simp [keysA,keys,e])
  funext K
  simp only [toP,upd_ne hj,toD_upd (v:=.ms j off n) h]
 | agg cs => exact toDA_upd (v:=.agg cs) h
 | _ => rfl
theorem toPs_upd : ∀ {l : List AV},k ∉ keysAs l -> toPs (upd k b hp) l = toPs hp l
 | [],_ => rfl
 | v :: l,h => by
   have h1 : k ∉ keysA v:=fun e => h (by simp [keysAs,e])
   have h2 : k ∉ keysAs l:=fun e => h (by simp [keysAs,e])
   funext K
   simp only [toPs,toP_upd h1,toPs_upd h2]
end
theorem callS_makes (P : Program) (gl : List (Nat × AV)) : HMakes (callS P gl):=by
 intro f args s K h
 unfold callS at h
 cases f with
 | yl l => exact h.elim
 | fn f =>
  simp only at h
  cases hx : boxy s.hp args with
  | false =>
   rw [hx] at h
   obtain ⟨ds,⟨r,hs,h⟩,hd⟩:=Sel.toDAs args _ h
   cases hp : plainR r with
   | true =>
    rw [hp] at h
    refine ⟨r,s.hp,h,fun k => .inl rfl,fun tm' K' hK => ?_,fun _ k b hk tm' K' hK => ?_⟩
    ·unfold callS
     simp only [hx]
     refine hd _ ⟨r,hs,?_⟩
     rw [hp]
     exact hK
    ·unfold callS
     simp only [boxy_upd hk,hx,toDAs_upd hk]
     refine hd _ ⟨r,hs,?_⟩
     rw [hp]
     exact hK
   | false =>
    rw [hp] at h
    refine ⟨r,frz (keysAs args) s.hp,h,frz_eq' _,fun tm' K' hK => ?_,fun _ k b hk tm' K' hK => ?_⟩
    ·unfold callS
     simp only [hx]
     refine hd _ ⟨r,hs,?_⟩
     rw [hp]
     exact hK
    ·unfold callS
     simp only [boxy_upd hk,hx,toDAs_upd hk]
     refine hd _ ⟨r,hs,?_⟩
     rw [hp]
     simp only [frz_upd hk]
     exact hK
  | true =>
   rw [hx] at h
   obtain ⟨ds,⟨r,hs,h⟩,hd⟩:=Sel.toPs args _ h
   cases hp : plainR r with
   | true =>
    rw [hp] at h
    refine ⟨r,s.hp,h,fun k => .inl rfl,fun tm' K' hK => ?_,fun _ k b hk tm' K' hK => ?_⟩
    ·unfold callS
     simp only [hx]
     refine hd _ ⟨r,hs,?_⟩
     rw [hp]
     exact hK
    ·unfold callS
     simp only [boxy_upd hk,hx,toPs_upd hk]
     refine hd _ ⟨r,hs,?_⟩
     rw [hp]
     exact hK
   | false => rw [hp] at h; exact h.elim
def callE (H : Tg -> List AV -> St -> (AV -> St -> Prop) -> Prop) (f : Tg) (args : List AV) (s : St) (K : AV -> St -> Prop) : Prop :=
 match f with
 | .yl _ => False
 | .fn f => ∃ r,K r s∧∀ tm,H (.fn f) args ⟨tm,s.hp,s.nx⟩ fun v s' => v = r∧bl s.nx r = true∧clean s.nx s'.hp s.nx∧∀ k,k < s.nx -> (s.hp k = none ∨ s.hp k = s'.hp k)
def callX (P : Program) (gl : List (Nat × AV)) (H : Tg -> List AV -> St -> (AV -> St -> Prop) -> Prop) (f : Tg) (args : List AV) (s : St) (K : AV -> St -> Prop) : Prop :=
 match ptrs args with
 | false => callS P gl f args s K
 | true => callE H f args s K
theorem callX_makes (P : Program) (gl : List (Nat × AV)) (H : Tg -> List AV -> St -> (AV -> St -> Prop) -> Prop) : HMakes (callX P gl H):=by
 intro f args s K h
 unfold callX at h
 cases hp : ptrs args with
 | false =>
  rw [hp] at h
  obtain ⟨r,hp1,h1,h2,h3,h4⟩:=callS_makes P gl f args s K h
  refine ⟨r,hp1,h1,h2,fun tm' K' hK => ?_,fun he k b hk tm' K' hK => ?_⟩
  ·unfold callX; rw [hp]; exact h3 tm' K' hK
  ·unfold callX; rw [hp]; exact h4 hp k b hk tm' K' hK
 | true =>
  rw [hp] at h
  cases f with
  | yl l => exact h.elim
  | fn f =>
   obtain ⟨r,h1,h2⟩:=h
   refine ⟨r,s.hp,h1,fun k => .inl rfl,fun tm' K' hK => ?_,fun e => (by cases e)⟩
   unfold callX; rw [hp]
   exact ⟨r,hK,h2⟩
def callW (P : Program) (gl : List (Nat × AV)) (f : Tg) (args : List AV) (s : St) (K : AV -> St -> Prop) : Prop :=
 match f with
 | .fn f => match boxy s.hp args with
  | false => toWs s.hp args fun ds => ∃ r,Spec P gl f ds r∧match plainR r with | true => K r s | false => K r ⟨s.tm,frzW (keysWs s.hp args) s.hp,s.nx⟩
  | true => toPs s.hp args fun ds => ∃ r,Spec P gl f ds r∧match plainR r with | true => K r s | false => False
 | .yl _ => False
def tmOf : List AV -> Nat -> AV
 | [],_ => .undef
 | v :: l,k => bif Nat.beq k 0 then v else tmOf l (Nat.pred k)
def resA (T : List (Nat × TyI)) (s : St) : List ResultVar -> (List AV -> Prop) -> Prop
 | [],K => K []
 | .tmp t :: rs,K => force (s.tm t) fun v => resA T s rs fun vs => K (v :: vs)
 | .cell a t :: rs,K => aLoad T none t (s.tm a) s fun v => resA T s rs fun vs => K (v :: vs)
def resV (vs : List AV) : AV :=
 match vs with
 | [v] => v
 | vs => .tup vs
def HY (H : Tg -> List AV -> St -> (AV -> St -> Prop) -> Prop) (l : Nat) (round : List AV -> St -> (St -> Prop) -> Prop) (f : Tg) (args : List AV) (s : St) (K : AV -> St -> Prop) : Prop :=
 match f with
 | .fn f => H (.fn f) args s K
 | .yl l' => l' = l∧round args s fun s' => K (.bool true) ⟨s.tm,s'.hp,s'.nx⟩
def G0 (_ : FuncId) (_ : List AV) (_ : St) (_ : List AV -> St -> (St -> Prop) -> Prop) (_ : St -> Prop) : Prop:=False
def Gn (P : Program) (T : List (Nat × TyI)) (gl : List (Nat × AV)) (H : Tg -> List AV -> St -> (AV -> St -> Prop) -> Prop) (f : FuncId) (cap : List AV) (s : St) (round : List AV -> St -> (St -> Prop) -> Prop) (K : St -> Prop) : Prop :=
 ∃ fn cd,P.funcs[f]? = some fn∧fn.body = some cd∧enters P f = true∧codeOk P fn.ntmps cd = true∧Nat.ble (Nat.succ cap.length) fn.ntmps = true ∧
  (fn.results.toList.all fun r => match r with | .tmp t => Nat.blt t fn.ntmps | .cell a _ => Nat.blt a fn.ntmps) = true ∧
  ∀ l,awC T gl (callS P gl) (HY H l round) G0 cd ⟨tmOf (.yl l :: cap),s.hp,s.nx⟩ fun e s' => (e = .normal ∨ e = .ret)∧resA T s' fn.results.toList fun _ => K ⟨s.tm,s'.hp,s'.nx⟩
def IdFn (P : Program) (f : FuncId) : Prop:=∀ (x : Value) (w : World),(callFunc f #[x]).run P w = .ok (.value x) w
def StrFn (P : Program) (f : FuncId) (et : Nat) : Prop:=enters P f = true∧∀ (w : World) (b g cap : Nat) (cur : Array Value) (l : List UInt8),l ≠ [] -> l.length <= cap -> cap <= maxLen -> cur.size = cap ->
 w.cell? ⟨b,1,none⟩ = some (.slice (some ⟨g,0,none⟩) l.length cap) -> w.heap[g]? = some (.cells cur et (0,0)) -> (∀ j x,l[j]? = some x -> w.cell? ⟨g,j,none⟩ = some (.int .u8 x.toNat)) ->
 Calls P f #[.pointer (some ⟨b,0,none⟩)] w fun e w' => e = .returned (.string ⟨l.toArray⟩)∧Below g w w'∧w'.heap.size = w.heap.size∧∀ b',b' ≠ g -> w'.heap[b']? = w.heap[b']?
def callB (P : Program) (f : FuncId) (args : List AV) (s : St) (K : AV -> St -> Prop) : Prop :=
 (IdFn P f∧match args with | [v] => K v s | _ => False) ∨
 (match args with
  | [.bp k 0] => ∃ e c0 r n et rows lv,s.hp k = some (.own e [c0,.ms r 0 n])∧s.hp r = some (.arr (et,1) rows lv)∧lv = true∧StrFn P f et∧∃ l : List UInt8,l ≠ []∧n = l.length∧rows = l.map (fun x => [.int .u8 x.toNat])∧K (.str ⟨⟨l⟩⟩) ⟨s.tm,upd r none s.hp,s.nx⟩
  | _ => False)
def Hn (P : Program) (T : List (Nat × TyI)) (gl : List (Nat × AV)) : Nat -> Tg -> List AV -> St -> (AV -> St -> Prop) -> Prop
 | 0,f,args,s,K => callW P gl f args s K
 | n + 1,f,args,s,K => callW P gl f args s K ∨ match f with
  | .fn f => (∃ fn cd,P.funcs[f]? = some fn∧fn.body = some cd∧enters P f = true∧codeOk P fn.ntmps cd = true∧Nat.ble args.length fn.ntmps = true ∧
        (fn.results.toList.all fun r => match r with | .tmp t => Nat.blt t fn.ntmps | .cell a _ => Nat.blt a fn.ntmps) = true ∧
        awC T gl (callX P gl (Hn P T gl n)) (Hn P T gl n) (Gn P T gl (Hn P T gl n)) cd ⟨tmOf args,s.hp,s.nx⟩ fun e s' => (e = .normal ∨ e = .ret)∧resA T s' fn.results.toList fun vs => K (resV vs) ⟨s.tm,s'.hp,s'.nx⟩) ∨
    (∃ fn cd,P.funcs[f]? = some fn∧fn.body = some cd∧enters P f = true∧codeOk P fn.ntmps cd = true∧Nat.ble args.length fn.ntmps = true ∧
        (fn.results.toList.all fun r => match r with | .tmp t => Nat.blt t fn.ntmps | .cell a _ => Nat.blt a fn.ntmps) = true ∧
        awC T gl (callX P gl (Hn P T gl n)) (Hn P T gl n) (Gn P T gl (Hn P T gl n)) cd ⟨tmOf args,s.hp,s.nx⟩ fun e s' => (e = .normal ∨ e = .ret)∧resA T s' fn.results.toList fun vs => bl s.nx (resV vs) = true∧clean s.nx s'.hp s.nx∧K (resV vs) ⟨s.tm,cutH s.nx s'.hp,s.nx⟩) ∨ callB P f args s K
  | .yl _ => False
end Ab
end
section
namespace Ab
open Go Go.RowKit
theorem plain_rep {w w' : World} {F F' : Foot} {M : Nat -> Option MB} : ∀ {r : AV} {v : Value},plain r = true -> RepD w F r v -> RepM w' F' M r v
 | .int _ _,_,_,h => h
 | .bool _,_,_,h => h
 | .str _,_,_,h => h
theorem plains_rep {w w' : World} {F F' : Foot} {M : Nat -> Option MB} : ∀ {rs : List AV} {vs : List Value},plains rs = true -> RepDL w F rs vs -> RepML w' F' M rs vs
 | [],_,_,h => by unfold RepDL at h; unfold RepML; exact h
 | r :: rs,vs,hp,h => by
   simp only [plains,Bool.and_eq_true] at hp
   unfold RepDL at h; unfold RepML
   obtain ⟨v,vs',h1,h2,h3⟩:=h
   exact ⟨v,vs',h1,plain_rep hp.1 h2,plains_rep hp.2 h3⟩
theorem plainR_rep {w w' : World} {F F' : Foot} {M : Nat -> Option MB} {r : AV} {v : Value} (hp : plainR r = true) (h : RepD w F r v) : RepM w' F' M r v:=by
 cases r with
 | tup vs =>
  unfold RepD at h; unfold RepM
  obtain ⟨us,h1,h2⟩:=h
  exact ⟨us,h1,plains_rep hp h2⟩
 | int k n => exact plain_rep rfl h
 | bool b => exact plain_rep rfl h
 | str b => exact plain_rep rfl h
 | _ => cases hp
theorem keep_call {c : Ctx} {F : Foot} {M : Nat -> Option MB} {hp : Nat -> Option Blk} {nx : Nat} {w w' : World} (h : HR c F M hp nx w) (hb : Below w.heap.size w w') :
  HR c F M hp nx w'∧Tr F M w F M w' :=
 h.keep (fun b hlt => hb.block b hlt) (fun _ h => h) (fun _ h => .inl h) (fun b hf => Nat.lt_of_lt_of_le (h.fl b hf) hb.size) (h.bel.trans (hb.mono h.bel.size))
theorem keep_call_new {c : Ctx} {F : Foot} {M : Nat -> Option MB} {hp : Nat -> Option Blk} {nx : Nat} {w w' : World} (h : HR c F M hp nx w) (hb : Below w.heap.size w w') :
  HR c (fun b => F b ∨ (w.heap.size <= b∧b < w'.heap.size)) M hp nx w'∧Tr F M w (fun b => F b ∨ (w.heap.size <= b∧b < w'.heap.size)) M w' :=
 h.keep (fun b hlt => hb.block b hlt) (fun _ h => .inl h) (fun b h => by rcases h with h | h; exact .inl h; exact .inr h.1)
  (fun b hf => by rcases hf with hf | hf; exact Nat.lt_of_lt_of_le (h.fl b hf) hb.size; exact hf.2) (h.bel.trans (hb.mono h.bel.size))
theorem callP_sound {c : Ctx} {f : FuncId} {args : List AV} {s : St} {K : AV -> St -> Prop} {F : Foot} {M : Nat -> Option MB} {w : World} {vals : List Value}
  (hK : toPs s.hp args fun ds => ∃ r,Spec c.P c.gl f ds r∧match plainR r with | true => K r s | false => False) (h : HR c F M s.hp s.nx w) (hv : RepML w F M args vals) : Does c.P f ⟨vals⟩ w (Ret c F M w s K):=by
 obtain ⟨ds,h1,r,hs,hK⟩:=toPs_sound h args vals hv hK
 refine Does.mono (hs w _ vals (fun b hb => frzP_lt h hb) (fun g av hg => RepM.mono (fun b hb => .inl hb) (fun _ _ => rfl) (fun _ _ h => h) _ _ (h.gl g av hg)) h1) fun e w' hh => ?_
 obtain ⟨v,rfl,k1,k2⟩:=hh
 cases hp : plainR r with
 | true =>
  rw [hp] at hK
  obtain ⟨g1,g2⟩:=keep_call h k2
  exact ⟨v,r,s,F,M,rfl,rfl,g1,g2,plainR_rep hp k1,hK⟩
 | false => rw [hp] at hK; exact hK.elim
theorem callS_sound (c : Ctx) : HSound c (callS c.P c.gl):=by
 intro f args s K F M w vals hK h hv
 unfold callS at hK
 cases f with
 | yl l => exact hK.elim
 | fn f =>
 simp only at hK ⊢
 cases hx : boxy s.hp args with
 | true => rw [hx] at hK; exact callP_sound hK h hv
 | false =>
 rw [hx] at hK
 obtain ⟨ds,h1,r,hs,hK⟩:=toDAs_sound h args vals hv hK
 obtain ⟨f1,f2⟩:=h.freeze (keysAs args)
 refine Does.mono (hs w _ vals f1.fl (fun g av hg => f1.gl g av hg) h1) fun e w' hh => ?_
 obtain ⟨v,rfl,k1,k2⟩:=hh
 cases hp : plainR r with
 | true =>
  rw [hp] at hK
  obtain ⟨g1,g2⟩:=keep_call h k2
  exact ⟨v,r,s,F,M,rfl,rfl,g1,g2,plainR_rep hp k1,hK⟩
 | false =>
  rw [hp] at hK
  obtain ⟨g1,g2⟩:=keep_call_new f1 k2
  exact ⟨v,r,⟨s.tm,frz (keysAs args) s.hp,s.nx⟩,_,M,rfl,rfl,g1,f2.trans g2,RepM.of_D _ _ k1,hK⟩
theorem callW_sound (c : Ctx) : HSound c (callW c.P c.gl):=by
 intro f args s K F M w vals hK h hv
 unfold callW at hK
 cases f with
 | yl l => exact hK.elim
 | fn f =>
 simp only at hK ⊢
 cases hx : boxy s.hp args with
 | true => rw [hx] at hK; exact callP_sound hK h hv
 | false =>
 rw [hx] at hK
 obtain ⟨ds,h1,r,hs,hK⟩:=toWs_sound h args vals hv hK
 obtain ⟨f1,f2⟩:=h.freezeW (keysWs s.hp args)
 refine Does.mono (hs w _ vals f1.fl (fun g av hg => f1.gl g av hg) h1) fun e w' hh => ?_
 obtain ⟨v,rfl,k1,k2⟩:=hh
 cases hp : plainR r with
 | true =>
  rw [hp] at hK
  obtain ⟨g1,g2⟩:=keep_call h k2
  exact ⟨v,r,s,F,M,rfl,rfl,g1,g2,plainR_rep hp k1,hK⟩
 | false =>
  rw [hp] at hK
  obtain ⟨g1,g2⟩:=keep_call_new f1 k2
  exact ⟨v,r,⟨s.tm,frzW (keysWs s.hp args) s.hp,s.nx⟩,_,M,rfl,rfl,g1,f2.trans g2,RepM.of_D _ _ k1,hK⟩
section
variable {c : Ctx} {F F' : Foot} {M M' : Nat -> Option MB} {w : World}
theorem resA_sound (hT : TOk c.P c.T) {N : Nat} {s : St} {a : Act} (h : Rel c N F M s a w) : ∀ (rs : List ResultVar) (K : List AV -> Prop),
  (rs.all fun r => match r with | .tmp t => Nat.blt t N | .cell a _ => Nat.blt a N) = true -> resA c.T s rs K ->
  ∃ vs us,(rs.mapM (m:=Sem) fun x => match x with
   | .tmp t => pure (a.tmps.getD t undef)
   | .cell b t => do loadVar t (<- asAddr (a.tmps.getD b undef))).run c.P w = .ok us w∧RepML w F M vs us∧K vs
 | [],K,_,hK => ⟨[],[],rfl,by unfold RepML; rfl,hK⟩
 | .tmp t :: rs,K,hN,hK => by
   simp only [List.all_cons,Bool.and_eq_true] at hN
   have ht : t < N:=Nat.le_of_ble_eq_true hN.1
   unfold resA at hK
   rw [force_eq] at hK
   obtain ⟨vs,us,h1,h2,h3⟩:=resA_sound hT h rs _ hN.2 hK
   refine ⟨s.tm t :: vs,a.tmps.getD t undef :: us,?_,by unfold RepML; exact ⟨_,_,rfl,h.tm t ht,h2⟩,h3⟩
   simp only [List.mapM_cons,Sem.run_bind,Sem.run_pure,Result.andThen,h1]
 | .cell b t :: rs,K,hN,hK => by
   simp only [List.all_cons,Bool.and_eq_true] at hN
   have ht : b < N:=Nat.le_of_ble_eq_true hN.1
   unfold resA at hK
   obtain ⟨ad,av,u,e1,e2,e3,e4⟩:=aLoad_sound hT h.toHR (h.tm b ht) hK
   obtain ⟨vs,us,h1,h2,h3⟩:=resA_sound hT h rs _ hN.2 e4
   refine ⟨av :: vs,u :: us,?_,by unfold RepML; exact ⟨_,_,rfl,e3,h2⟩,h3⟩
   have ha : (asAddr (a.tmps.getD b undef)).run c.P w = .ok ad w:=by rw [e1]; rfl
   simp only [List.mapM_cons,Sem.run_bind,Sem.run_pure,Result.andThen,ha,e2,h1]
theorem results_run (hT : TOk c.P c.T) {N : Nat} {s : St} {a : Act} (h : Rel c N F M s a w) (fn : Func) {K : List AV -> Prop}
  (hN : (fn.results.toList.all fun r => match r with | .tmp t => Nat.blt t N | .cell a _ => Nat.blt a N) = true) (hK : resA c.T s fn.results.toList K) :
  ∃ vs v,(results fn a.tmps).run c.P w = .ok v w∧RepM w F M (resV vs) v∧K vs:=by
 obtain ⟨vs,us,h1,h2,h3⟩:=resA_sound hT h _ K hN hK
 have hl:=RepML.len _ _ h2
 have hmap : ∀ (x : Sem (List Value)),x.run c.P w = .ok us w -> (List.toArray <$> x).run c.P w = .ok us.toArray w:=by
  intro x hx; simp [hx]
 obtain ⟨g,hg,hgx⟩ : ∃ g : ResultVar -> Sem Value,results fn a.tmps = (do let vs <- fn.results.mapM g; pure (if h : vs.size = 1 then vs[0] else .tuple vs)) ∧
   ∀ x,g x = (match x with
   | .tmp t => pure (a.tmps.getD t undef)
   | .cell b t => do loadVar t (<- asAddr (a.tmps.getD b undef))):=⟨_,rfl,fun x => by cases x <;> rfl⟩
 have hm : (fn.results.mapM g).run c.P w = .ok us.toArray w:=by
  rw [Array.mapM_eq_mapM_toList]
  refine hmap _ ?_
  have : g = fun x => (match x with
   | .tmp t => pure (a.tmps.getD t undef)
   | .cell b t => do loadVar t (<- asAddr (a.tmps.getD b undef))):=funext hgx
  rw [this]; exact h1
 refine ⟨vs,if h : us.toArray.size = 1 then us.toArray[0] else .tuple us.toArray,?_,?_,h3⟩
 ·rw [hg,Sem.run_bind,hm]
  rfl
 ·match vs,us,h2,hl with
  | [],us,h2,hl =>
   have : us = []:=List.eq_nil_of_length_eq_zero hl
   subst this
   unfold resV RepM
   exact ⟨[],rfl,by unfold RepML; rfl⟩
  | [v],us,h2,hl =>
   unfold RepML at h2
   obtain ⟨u,us',rfl,h4,h5⟩:=h2
   unfold RepML at h5
   subst h5
   exact h4
  | v :: v' :: vs,us,h2,hl =>
   have hne : us.toArray.size ≠ 1:=by simp at hl ⊢; omega
   rw [dif_neg hne]
   unfold resV RepM
   exact ⟨us,rfl,h2⟩
theorem tmOf_rep {N : Nat} : ∀ (args : List AV) (vals : List Value) (t : Nat),RepML w F M args vals -> RepM w F M (tmOf args t) ((vals ++ List.replicate (N - vals.length) undef).getD t undef)
 | [],vals,t,h => by unfold tmOf RepM; trivial
 | a :: args,vals,t,h => by
   unfold RepML at h
   obtain ⟨v,vs',rfl,h1,h2⟩:=h
   cases t with
   | zero => simpa [tmOf] using h1
   | succ t =>
    have:=tmOf_rep (N:=N - 1) args vs' t h2
    have e : (v :: vs' ++ List.replicate (N - (v :: vs').length) undef).getD (t + 1) undef = (vs' ++ List.replicate (N - 1 - vs'.length) undef).getD t undef:=by
     simp only [List.cons_append,List.getD_cons_succ,List.length_cons]
     congr 3; omega
    rw [e]
    exact this
theorem enter_rel (hx : ∀ D,c.dx = some D -> D = []) {hp : Nat -> Option Blk} {nx : Nat} (h : HR c F M hp nx w) {N : Nat} {args : List AV} {vals : List Value} (hv : RepML w F M args vals) (hN : args.length <= N) :
  Rel c N F M ⟨tmOf args,hp,nx⟩ { tmps:=(⟨vals⟩ : Array Value) ++ Array.replicate (N - (⟨vals⟩ : Array Value).size) undef,defers:=[] } w:=by
 have hl:=RepML.len _ _ hv
 refine ⟨h,fun t _ => ?_,DfOk.nil hx,by simp; omega⟩
 have:=tmOf_rep (N:=N) args vals t hv
 have e : ((⟨vals⟩ : Array Value) ++ Array.replicate (N - (⟨vals⟩ : Array Value).size) undef).getD t undef = (vals ++ List.replicate (N - vals.length) undef).getD t undef:=by
  have e0 : (⟨vals⟩ : Array Value) ++ Array.replicate (N - (⟨vals⟩ : Array Value).size) undef = ⟨vals ++ List.replicate (N - vals.length) undef⟩:=by apply Array.ext'; simp
  rw [e0]
  simp [Array.getD_eq_getD_getElem?,List.getD_eq_getElem?_getD]
 rw [e]; exact this
theorem leaves_marks (hx : c.dx = none) {N : Nat} {fn : Func} {R : Ending -> World -> Prop} (hT : TOk c.P c.T) {s : St} {tmps : Array Value} {K : AV -> Prop} (hsz : tmps.size = N)
  (hr : (fn.results.toList.all fun r => match r with | .tmp t => Nat.blt t N | .cell a _ => Nat.blt a N) = true) (hK : resA c.T s fn.results.toList fun vs => K (resV vs))
  {F0 : Foot} {M0 : Nat -> Option MB} {w0 : World} (hw0 : ∀ b,F0 b -> b < w0.heap.size) (hbs : c.base = some (F0,M0,w0))
  (hR : ∀ v av w',HR c F M s.hp s.nx w' -> Tr F0 M0 w0 F M w' -> RepM w' F M av v -> K av -> R (.returned v) w') :
  ∀ (ds : List Deferred) (w' : World),(∀ d ∈ ds,(∃ D,d = mark D) ∨ Quiet c.P d) -> (dmarks ds).Nodup -> (∀ D ∈ dmarks ds,(Alien c F M D∧(∀ b,c.base = some b -> b.2.2.heap.size <= D))∧w'.heap[D]? = some (.deferred (some []))) -> (∀ p ∈ c.al,p.1 < w0.heap.size) -> HR c F M s.hp s.nx w' -> Tr F0 M0 w0 F M w' -> (∀ t,t < N -> RepM w' F M (s.tm t) (tmps.getD t undef)) ->
   LeavesInM Fence.wide 0 c.P fn tmps R ds .returning w'
 | [],w',_,_,_,_,h,t,htm => by
   have hrel : Rel c N F M s { tmps:=tmps,defers:=[] } w':=⟨h,htm,DfOk.nil (fun D h => by rw [hx] at h; cases h),hsz⟩
   obtain ⟨vs,v,r1,r2,r3⟩:=results_run hT hrel fn hr hK
   exact ⟨v,r1,hR v _ w' h t r2 r3⟩
 | d :: ds,w',hq,hnd,hD,hal,h,t,htm => by
   have hq' : ∀ d ∈ ds,(∃ D,d = mark D) ∨ Quiet c.P d:=fun d hd => hq d (by simp [hd])
   rcases hq d (by simp) with ⟨D,rfl⟩ | hQ
   ·rw [dmarks_mark] at hnd hD
    obtain ⟨⟨h1,h2⟩,h4⟩:=hD D (by simp)
    have h0 : w0.heap.size <= D:=h2 _ hbs
    have hlt : D < w'.heap.size:=(Array.getElem?_eq_some_iff.1 h4).1
    have hnd':=List.nodup_cons.1 hnd
    refine ⟨by simp,.inl ⟨D,w'.putObj D (.deferred none),rfl,run_takeDeferred h4,?_⟩⟩
    have hh : HR (c.wa c.al) F M s.hp s.nx (w'.putObj D (.deferred none)):=h.putAlien h1 hlt _ c.al (fun p hp => .inr ⟨by have:=hal p hp; omega,hp⟩) h2
    refine leaves_marks hx hT hsz hr hK hw0 hbs hR ds _ hq' hnd'.2 (fun D' hD' => ?_) hal hh (t.alter h0 hw0) fun k hk => (htm k hk).putAlien h1.2.1
    obtain ⟨g1,g4⟩:=hD D' (by simp [hD'])
    exact ⟨g1,(World.putObj_heap_other (fun e => hnd'.1 (by rw [<- e]; exact hD'))).trans g4⟩
   ·rw [hQ.dmarks] at hnd hD
    have next:=leaves_marks hx hT hsz hr hK hw0 hbs hR ds w' hq' hnd hD hal h t htm
    obtain ⟨fv,cap,f,args,g1,g2,g3⟩:=hQ
    refine ⟨by simp,.inr ⟨fun h => by simp [Fence.wide] at h,fv,cap,f,args,g1,g2 w',fun _ _ => trivial,?_⟩⟩
    refine CallsDIn.mono (g3 w') fun e u' w'' hh => ?_
    obtain ⟨⟨v,rfl⟩,rfl,rfl⟩:=hh
    exact next
abbrev Ctx.wb (c : Ctx) (b : Option (Foot × (Nat -> Option MB) × World)) : Ctx:={ c with base:=b,dx:=none }
abbrev Ctx.wx (c : Ctx) (x : Option (List Deferred)) : Ctx:={ c with dx:=x }
theorem HR.redx {c : Ctx} {F : Foot} {M : Nat -> Option MB} {w : World} {hp : Nat -> Option Blk} {nx : Nat} (h : HR c F M hp nx w) (x : Option (List Deferred)) : HR (c.wx x) F M hp nx w :=
 ⟨h.box,h.arr,h.own,h.inj,h.dom,h.fl,h.hist,h.gl,h.bel,h.ml,h.al,h.base,h.res,h.mp⟩
theorem HR.rebase {hp : Nat -> Option Blk} {nx : Nat} (h : HR c F M hp nx w) (b : Option (Foot × (Nat -> Option MB) × World)) (hb : BaseOk (c.wb b) F M w) : HR (c.wb b) F M hp nx w :=
 ⟨h.box,h.arr,h.own,h.inj,h.dom,h.fl,h.hist,h.gl,h.bel,h.ml,h.al,hb,h.res,h.mp⟩
theorem HR.unbase {hp : Nat -> Option Blk} {nx : Nat} {b : Option (Foot × (Nat -> Option MB) × World)} (h : HR (c.wb b) F M hp nx w) (hb : BaseOk c F M w) : HR c F M hp nx w :=
 ⟨h.box,h.arr,h.own,h.inj,h.dom,h.fl,h.hist,h.gl,h.bel,h.ml,h.al,hb,h.res,h.mp⟩
theorem body_calls {HD H : Tg -> List AV -> St -> (AV -> St -> Prop) -> Prop} {G : FuncId -> List AV -> St -> (List AV -> St -> (St -> Prop) -> Prop) -> (St -> Prop) -> Prop} (hT : TOk c.P c.T) (hM : HMakes HD) (hmo : c.P.follows .mixedOrders = true)
  (A : List (Nat × Obj) -> Prop) (hA : A c.al)
  {hp : Nat -> Option Blk} {nx : Nat} (h : HR c F M hp nx w) (hHD : ∀ al,A al -> HSound ((c.wb (some (F,M,w))).wa al) HD) (hH : ∀ al,A al -> HSound ((c.wb (some (F,M,w))).wa al) H)
  (hG : (∀ f cap s r K,¬ G f cap s r K) ∨ ((∀ al,A al)∧∀ al,GSound ((c.wb (some (F,M,w))).wa al) G))
  {f : FuncId} {fn : Func} {cd : Code} {args : List AV} {vals : List Value} {K : AV -> St -> Prop}
  (hf : c.P.funcs[f]? = some fn) (hb : fn.body = some cd) (hok : codeOk c.P fn.ntmps cd = true) (hN : Nat.ble args.length fn.ntmps = true)
  (hr : (fn.results.toList.all fun r => match r with | .tmp t => Nat.blt t fn.ntmps | .cell a _ => Nat.blt a fn.ntmps) = true) (hv : RepML w F M args vals)
  (hK : awC c.T c.gl HD H G cd ⟨tmOf args,hp,nx⟩ fun e s' => (e = .normal ∨ e = .ret)∧resA c.T s' fn.results.toList fun vs => K (resV vs) s') :
  Calls c.P f ⟨vals⟩ w fun e w' => ∃ v av s' F' M',e = .returned v∧HR c F' M' s'.hp s'.nx w'∧Tr F M w F' M' w'∧RepM w' F' M' av v∧K av s':=by
 have hbase : BaseOk (c.wb (some (F,M,w))) F M w:=fun b hb => by cases hb; exact ⟨Tr.refl F M w,h.fl⟩
 have h':=h.rebase _ hbase
 refine (callsIn_wide (n:=0)).1 (callsIn_of_wp_marks hf hb trivial (wpIn_mono (awC_sound (c:=c.wb (some (F,M,w))) hT hM hmo A hHD hH hG cd c.al none hA (.inl rfl) (.inl rfl) hok _ _ F M _ w hK (enter_rel (fun D h => by cases h) h' hv (Nat.le_of_ble_eq_true hN))) fun e a' w' hq => ?_))
 obtain ⟨s',F',M',r,t,he,hres⟩:=hq
 have fin : LeavesInM Fence.wide 0 c.P fn a'.tmps (fun e w' => ∃ v av s' F' M',e = .returned v∧HR c F' M' s'.hp s'.nx w'∧Tr F M w F' M' w'∧RepM w' F' M' av v∧K av s') a'.defers .returning w':=by
  obtain ⟨_,d1,d2,d3⟩:=r.df
  refine leaves_marks rfl (c:=c.wb (some (F,M,w))) (K:=fun v => K v s') hT r.sz hr hres h.fl rfl (fun v av w' g1 g2 g3 g4 => ⟨v,av,s',F',M',rfl,g1.unbase (h.base.tr g2),g2,g3,g4⟩) _ w' d1 d2 d3 (fun p hp => (Array.getElem?_eq_some_iff.1 (h.al p hp).2).1) r.toHR t r.tm
 rcases he with rfl | rfl
 ·exact fin
 ·exact fin
theorem callX_sound {c : Ctx} {H : Tg -> List AV -> St -> (AV -> St -> Prop) -> Prop} (hH : HSound c H) : HSound c (callX c.P c.gl H):=by
 intro f args s K F M w vals hK h hv
 unfold callX at hK
 cases hp : ptrs args with
 | false => rw [hp] at hK; exact callS_sound c f args s K F M w vals hK h hv
 | true =>
  rw [hp] at hK
  cases f with
  | yl l => exact hK.elim
  | fn f =>
   obtain ⟨r,hK,hrun⟩:=hK
   have hd:=hH (.fn f) args ⟨s.tm,s.hp,s.nx⟩ _ F M w vals (hrun s.tm) h hv
   refine Does.mono hd fun e w' hh => ?_
   obtain ⟨v,av,s',F',M',h1,h2,h3,h4,h5,rfl,e1,e2,e3⟩:=hh
   have t:=h4.cut (n:=s.nx) fun k hk => (h.dom k hk).1
   refine ⟨v,av,s,F',cutM s.nx M',h1,rfl,(h3.cut e2 (h.base.tr t)).weaken fun k => ?_,t,h5.cut _ _ e1,hK⟩
   by_cases hk : k < s.nx
   ·rcases e3 k hk with e | e
    ·exact .inl e
    ·right; rw [e]; unfold cutH; rw [blt_iff.2 hk]; rfl
   ·exact .inl (h.dom k (by omega)).2
theorem HY_sound {H : Tg -> List AV -> St -> (AV -> St -> Prop) -> Prop} {l : Nat} {round : List AV -> St -> (St -> Prop) -> Prop} (hH : HSound c H) {F0 : Foot} {M0 : Nat -> Option MB} {w0 : World} (hb : c.base = some (F0,M0,w0)) (hr : RoundOk c l F0 M0 w0 round) : HSound c (HY H l round):=by
 intro f args s K F M w vals hK h hv
 cases f with
 | fn f => exact hH (.fn f) args s K F M w vals hK h hv
 | yl l' =>
  obtain ⟨rfl,hK⟩:=hK
  obtain ⟨fn,tmps,assign,body,hy,hR⟩:=hr args vals s _ F M w hK h (h.base _ hb).1 hv
  refine ⟨fn,tmps,assign,body,hy,hR.mono fun e w' hh => ?_⟩
  obtain ⟨rfl,s',F',M',h1,h2,h3,h4⟩:=hh
  exact ⟨_,_,⟨s.tm,s'.hp,s'.nx⟩,F',M',rfl,rfl,h2,h3,by unfold RepM; rfl,h4⟩
theorem RoundOk.wb {l : Nat} {round : List AV -> St -> (St -> Prop) -> Prop} (h : RoundOk c l F M w round) (hb : BaseOk c F M w) (hF : ∀ b,F b -> b < w.heap.size) : RoundOk (c.wb (some (F,M,w))) l F M w round:=by
 intro args vals s1 K1 F1 M1 w1 hr h1 t1 hv
 obtain ⟨fn,tmps,assign,body,hy,hR⟩:=h args vals s1 K1 F1 M1 w1 hr (h1.unbase (hb.tr t1)) t1 hv
 refine ⟨fn,tmps,assign,body,hy,hR.mono fun e w' hh => ?_⟩
 obtain ⟨rfl,s',F',M',h2,h3,h4,h5⟩:=hh
 exact ⟨rfl,s',F',M',h2,h3.rebase _ (fun b hb => by cases hb; exact ⟨t1.trans h4,hF⟩),h4,h5⟩
theorem Gn_sound {H : Tg -> List AV -> St -> (AV -> St -> Prop) -> Prop} (hT : TOk c.P c.T) (hmo : c.P.follows .mixedOrders = true) (hH : ∀ c' : Ctx,c'.P = c.P -> c'.T = c.T -> c'.gl = c.gl -> HSound c' H) : GSound c (Gn c.P c.T c.gl H):=by
 intro f cap s round K F M w caps l hK h hv hround
 obtain ⟨fn,cd,hf,hb,he,hok,hN,hr,hK⟩:=hK
 refine ⟨he,Calls.mono (body_calls (K:=fun v s' => K ⟨s.tm,s'.hp,s'.nx⟩) hT (callS_makes c.P c.gl) hmo (fun al => al = c.al) rfl h (fun al e => callS_sound _) (fun al e => ?_) (.inl fun _ _ _ _ _ h => h) hf hb hok hN hr (args:=.yl l :: cap) ?_ (hK l)) fun e w' hh => ?_⟩
 ·subst e
  exact HY_sound (c:=c.wb (some (F,M,w))) (hH _ rfl rfl rfl) rfl (hround.wb h.base h.fl)
 ·unfold RepML
  exact ⟨_,_,rfl,by unfold RepM; rfl,hv⟩
 ·obtain ⟨v,av,s',F',M',h1,h2,h3,h4,h5⟩:=hh
  exact ⟨v,⟨s.tm,s'.hp,s'.nx⟩,F',M',h1,h2,h3,h5⟩
theorem flat_bytes : ∀ (l : List UInt8),(l.map fun x : UInt8 => [AV.int .u8 x.toNat]).flatten = l.map fun x => AV.int .u8 x.toNat
 | [] => rfl
 | x :: l => by simp only [List.map_cons,List.flatten_cons,flat_bytes l,List.singleton_append]
theorem callB_sound {f : FuncId} {args : List AV} {s : St} {K : AV -> St -> Prop} {vals : List Value} (hK : callB c.P f args s K) (h : HR c F M s.hp s.nx w) (hv : RepML w F M args vals) : Does c.P f ⟨vals⟩ w (Ret c F M w s K):=by
 rcases hK with ⟨h1,hK⟩ | hK
 ·match args,hK with
  | [v],hK =>
   unfold RepML at hv
   obtain ⟨x,xs,rfl,h2,h3⟩:=hv
   unfold RepML at h3
   subst h3
   exact .inr ⟨x,w,h1 x w,x,v,s,F,M,rfl,rfl,h,Tr.refl F M w,h2,hK⟩
  | [],hK => exact hK.elim
  | _ :: _ :: _,hK => exact hK.elim
 ·match args,hK with
  | [.bp k 0],hK =>
   obtain ⟨e,c0,r,n,et,rows,lv,h1,h2,rfl,⟨h3,h4⟩,l,h5,rfl,rfl,hK⟩:=hK
   unfold RepML at hv
   obtain ⟨x,xs,rfl,g1,g2⟩:=hv
   unfold RepML at g2
   subst g2
   unfold RepM at g1
   obtain ⟨m,f1,rfl⟩:=g1
   obtain ⟨mo,o1,o2,o3,o4,o5,o6,o7⟩:=h.own k e _ h1
   rw [f1] at o1; cases o1
   obtain ⟨mr,a1,a2,a3,a4,_,a6,a7,a8,a9⟩:=h.arr r (et,1) _ true h2
   simp only [Prod.mk.injEq] at a2
   simp only [RepMC] at o7
   obtain ⟨_,⟨_,v1,q1,q2⟩,_⟩:=o7
   unfold RepM at q2
   obtain ⟨mr',q3,q4⟩:=q2
   rw [a1] at q3; cases q3
   have hl0 : l.length ≠ 0:=by simpa using h5
   rcases q4 with ⟨q4,q5⟩ | ⟨q4,_⟩
   case inr => exact absurd q4 hl0
   rw [Nat.zero_mul] at q4
   subst q4
   obtain ⟨cur,d1,d2⟩:=a6
   rw [a2.1] at d1
   rw [a2.2,Nat.mul_one] at d2
   rw [a2.2] at a9
   obtain ⟨vs,b1,b2,b3,b4⟩:=RepR.vals _ 0 a9
   have hcl:=h4 w m.b mr.b mr.cap cur l h5 (by simpa using a7.1) a7.2 d2 (by simpa using q1) d1 (fun j x hj => by
    rw [flat_bytes] at b2
    obtain ⟨v,e1,e2⟩:=RepDL.get _ _ j (AV.int .u8 x.toNat) b2 (by rw [List.getElem?_map,hj]; rfl)
    unfold RepD at e2
    have:=b4 j v e1
    rw [Nat.zero_add] at this
    rw [this,e2])
   refine .inl ⟨h3,Calls.mono hcl fun en w' hh => ?_⟩
   obtain ⟨rfl,k1,k2,k3⟩:=hh
   obtain ⟨g1,g2⟩:=h.dropW (w':=w') (k:=r) (m:=mr) (by rw [h2]; simp) a1 (a4 rfl) k3 k2 ⟨k1.os.trans h.bel.os,k1.tape.trans h.bel.tape,k1.output.trans h.bel.output,by rw [k2]; exact h.bel.size,fun b hb => (k3 b (by omega)).trans (h.bel.block b hb)⟩
   exact ⟨_,.str ⟨⟨l⟩⟩,⟨s.tm,upd r none s.hp,s.nx⟩,F,M,rfl,rfl,g1,g2,by unfold RepM; rfl,hK⟩
theorem Hn_sound {c : Ctx} (hT : TOk c.P c.T) (hmo : c.P.follows .mixedOrders = true) : ∀ n (c' : Ctx),c'.P = c.P -> c'.T = c.T -> c'.gl = c.gl -> HSound c' (Hn c.P c.T c.gl n)
 | 0,c',e1,e2,e3 => by rw [<- e1,<- e2,<- e3]; exact callW_sound c'
 | n + 1,c',e1,e2,e3 => by
   intro f args s K F M w vals hK h hv
   rcases hK with hK | hK
   ·have:=callW_sound c' f args s K F M w vals (by rw [e1,e3]; exact hK) h hv
    exact this
   ·cases f with
    | yl l => exact hK.elim
    | fn f =>
     have main : ∀ (K' : AV -> St -> Prop),(∃ fn cd,c.P.funcs[f]? = some fn∧fn.body = some cd∧enters c.P f = true∧codeOk c.P fn.ntmps cd = true∧Nat.ble args.length fn.ntmps = true ∧
       (fn.results.toList.all fun r => match r with | .tmp t => Nat.blt t fn.ntmps | .cell a _ => Nat.blt a fn.ntmps) = true ∧
       awC c.T c.gl (callX c.P c.gl (Hn c.P c.T c.gl n)) (Hn c.P c.T c.gl n) (Gn c.P c.T c.gl (Hn c.P c.T c.gl n)) cd ⟨tmOf args,s.hp,s.nx⟩ fun e s' => (e = .normal ∨ e = .ret)∧resA c.T s' fn.results.toList fun vs => K' (resV vs) s') ->
       enters c'.P f = true∧Calls c'.P f ⟨vals⟩ w fun e w' => ∃ v av s' F' M',e = .returned v∧HR c' F' M' s'.hp s'.nx w'∧Tr F M w F' M' w'∧RepM w' F' M' av v∧K' av s':=by
      intro K' hK
      obtain ⟨fn,cd,hf,hb,he,hok,hN,hr,hK⟩:=hK
      rw [<- e1] at hf he hok hK
      rw [<- e2,<- e3] at hK
      have hs:=fun c'' (g1 : c''.P = c'.P) (g2 : c''.T = c'.T) (g3 : c''.gl = c'.gl) => Hn_sound hT hmo n c'' (g1.trans e1) (g2.trans e2) (g3.trans e3)
      rw [<- e1,<- e2,<- e3] at hs
      exact ⟨he,body_calls (c:=c') (by rw [e1,e2]; exact hT) (callX_makes c'.P c'.gl _) (by rw [e1]; exact hmo) (fun _ => True) trivial h (fun al _ => callX_sound (hs _ rfl rfl rfl)) (fun al _ => hs _ rfl rfl rfl)
       (.inr ⟨fun _ => trivial,fun al => Gn_sound (c:=(c'.wb (some (F,M,w))).wa al) (by rw [show ((c'.wb (some (F,M,w))).wa al).P = c.P from e1,show ((c'.wb (some (F,M,w))).wa al).T = c.T from e2]; exact hT) (by rw [show ((c'.wb (some (F,M,w))).wa al).P = c.P from e1]; exact hmo) (fun c'' g1 g2 g3 => hs c'' g1 g2 g3)⟩)
       hf hb hok hN hr hv (K:=K') hK⟩
     rcases hK with hK | hK | hK
     ·obtain ⟨he,hc⟩:=main (fun v s' => K v ⟨s.tm,s'.hp,s'.nx⟩) hK
      refine .inl ⟨he,Calls.mono hc fun e w' hh => ?_⟩
      obtain ⟨v,av,s',F',M',h1,h2,h3,h4,h5⟩:=hh
      exact ⟨v,av,⟨s.tm,s'.hp,s'.nx⟩,F',M',h1,rfl,h2,h3,h4,h5⟩
     ·obtain ⟨he,hc⟩:=main (fun v s' => bl s.nx v = true∧clean s.nx s'.hp s.nx∧K v ⟨s.tm,cutH s.nx s'.hp,s.nx⟩) hK
      refine .inl ⟨he,Calls.mono hc fun e w' hh => ?_⟩
      obtain ⟨v,av,s',F',M',h1,h2,h3,h4,h5,h6,h7⟩:=hh
      have t:=h3.cut (n:=s.nx) fun k hk => (h.dom k hk).1
      exact ⟨v,av,⟨s.tm,cutH s.nx s'.hp,s.nx⟩,F',cutM s.nx M',h1,rfl,h2.cut h6 (h.base.tr t),t,h4.cut _ _ h5,h7⟩
     ·rw [<- e1] at hK
      exact callB_sound hK h hv
end
theorem spec_of {P : Program} {T : List (Nat × TyI)} {gl : List (Nat × AV)} (hT : TOk P T) (hmo : P.follows .mixedOrders = true) (n : Nat) {f : FuncId} {fn : Func} {cd : Code} {ds : List AV} {r : AV}
  (hf : P.funcs[f]? = some fn) (hb : fn.body = some cd) (he : enters P f = true) (hok : codeOk P fn.ntmps cd = true) (hN : Nat.ble ds.length fn.ntmps = true)
  (hr : (fn.results.toList.all fun r => match r with | .tmp t => Nat.blt t fn.ntmps | .cell a _ => Nat.blt a fn.ntmps) = true)
  (hK : awC T gl (callX P gl (Hn P T gl n)) (Hn P T gl n) (Gn P T gl (Hn P T gl n)) cd ⟨tmOf ds,fun _ => none,0⟩ fun e s' => (e = .normal ∨ e = .ret)∧resA T s' fn.results.toList fun vs => toWR s'.hp (resV vs) fun d => d = r) : Spec P gl f ds r:=by
 intro w F vals hF hg hv
 refine .inl ⟨he,?_⟩
 let c : Ctx:={ P:=P,T:=T,gl:=gl,w0:=w,F0:=F }
 have h : HR c F (fun _ => none) (fun _ => none) 0 w:=⟨(fun _ _ h => by cases h),(fun _ _ _ _ h => by cases h),(fun _ _ _ h => by cases h),fun _ _ _ _ h => absurd rfl h,fun _ _ => ⟨rfl,rfl⟩,hF,fun b h => .inl h,hg,Below.refl _ _,fun _ _ h => (by cases h),fun _ h => (by cases h),fun _ h => (by cases h),fun _ h => (by cases h),fun _ _ h => (by cases h)⟩
 refine Calls.mono (body_calls (c:=c) (K:=fun v s' => toWR s'.hp v fun d => d = r) hT (callX_makes P gl _) hmo (fun _ => True) trivial h (fun al _ => callX_sound (Hn_sound (c:=c) hT hmo n _ rfl rfl rfl)) (fun al _ => Hn_sound (c:=c) hT hmo n _ rfl rfl rfl)
  (.inr ⟨fun _ => trivial,fun al => Gn_sound (c:=(c.wb _).wa al) hT hmo fun c'' g1 g2 g3 => Hn_sound (c:=c) hT hmo n c'' g1 g2 g3⟩) hf hb hok hN hr (RepML.of_D _ _ hv) hK) fun e w' hh => ?_
 obtain ⟨v,av,s',F',M',rfl,h2,h3,h4,h5⟩:=hh
 obtain ⟨d,k1,rfl⟩:=toWR_sound h2 h4 h5
 obtain ⟨f1,f2⟩:=h2.freezeW (keysWR s'.hp av)
 refine ⟨v,rfl,RepD.mono (fun b hb => ?_) (fun _ _ => rfl) _ _ k1,h2.bel⟩
 rcases f1.hist b hb with h6 | h6
 ·exact .inl h6
 ·exact .inr ⟨h6,f1.fl b hb⟩
theorem tok_of {P : Program} {T : List (Nat × TyI)} (h : T.map (fun p => tyOf P p.1) = T.map (fun p => some p.2)) : TOk P T:=by
 intro t i ht
 induction T with
 | nil => cases ht
 | cons p T ih =>
  obtain ⟨j,v⟩:=p
  simp only [List.map_cons,List.cons.injEq] at h
  unfold look at ht
  cases hb : Nat.beq t j with
  | true =>
   rw [hb] at ht
   simp only [cond_true,Option.some.injEq] at ht
   have:=Nat.eq_of_beq_eq_true hb
   subst this
   rw [h.1,ht]
  | false =>
   rw [hb] at ht
   exact ih h.2 ht
end Ab
end
