import Derived.Test.YtpjjbhhoagocjaaGreatDoorXGa
import Derived.RecoverIn
namespace Ab
open Go Go.RowKit
def quietCode (i0 i1 : Nat) (a b c d : Tmp) (ty ty2 t0 t1 t2 t3 : TypeId) (p0 p1 p2 p3 : String) (e0 e1 e2 e3 : Array Edge) (X : Code) : Code :=
 (Code.region i0 #[{ dst:=some a,op:=.call { callee:=.builtin .recover,args:=#[],argTypes:=#[] },type:=t0,pos:=p0,after:=e0,guard:=none },{ dst:=some b,op:=.assign (.tmp a),type:=t1,pos:=p1,after:=e1,guard:=none }] false).seq
  ((Code.region i1 #[{ dst:=some c,op:=.move (.tmp b),type:=t2,pos:=p2,after:=e2,guard:=none },{ dst:=some d,op:=.binOp .neq ty (.tmp c) (.const .nilIface) ty2,type:=t3,pos:=p3,after:=e3,guard:=none }] false).seq
    (Code.cond (.tmp d) X .skip))
theorem quiet_calls {P : Program} {f : FuncId} {fn : Func} {args : Array Value} {w : World} {n : Nat} {i0 i1 : Nat} {a b c d : Tmp} {ty ty2 t0 t1 t2 t3 : TypeId} {p0 p1 p2 p3 : String} {e0 e1 e2 e3 : Array Edge} {X : Code}
  (hf : P.funcs[f]? = some fn) (hb : fn.body = some (quietCode i0 i1 a b c d ty ty2 t0 t1 t2 t3 p0 p1 p2 p3 e0 e1 e2 e3 X)) (hres : fn.results = #[]) (hs : args.size <= fn.ntmps) (ha : a < fn.ntmps) (hb' : b < fn.ntmps) (hc : c < fn.ntmps) (hd : d < fn.ntmps)
  (hty : ∀ w,(Go.binOp .neq ty .nilIface .nilIface).run P w = .ok (.bool false) w) :
  CallsDIn Fence.wide n P f args .returning w fun e u' w' => (∃ v,e = .returned v)∧u' = .returning∧w' = w:=by
 refine callsDIn_of_wpSIn hf hb trivial fun c₀ cs hu => ?_
 have hr : recoverD (c₀ :: cs) = none:=by simp [recoverD,hu]
 refine wpSIn_seq (wpSIn_region ?_)
 rw [show List.range (#[_,_] : Array Oper).size = [0,1] from rfl]
 have hrec : ∀ (ev : Operand -> Value) (w : World),(execOp ev { dst:=some a,op:=.call { callee:=.builtin .recover,args:=#[],argTypes:=#[] },type:=t0,pos:=p0,after:=e0,guard:=none }).run P w = .ok .recover w:=by
  intro ev w
  simp [execOp,resolve,invoke,builtin]
 have hput : ∀ (A : Act) (t : Tmp) (v : Value),A.tmps.size = fn.ntmps -> t < fn.ntmps -> (A.put (some t) v).eval (.tmp t) = v∧(A.put (some t) v).tmps.size = fn.ntmps:=by
  intro A t v h1 h2
  refine ⟨?_,by simp [Act.put,h1]⟩
  simp [Act.put,Act.eval,Array.getD,h1,h2]
 obtain ⟨A0,hA0⟩ : ∃ A0 : Act,A0 = { tmps:=args ++ Array.replicate (fn.ntmps - args.size) undef,defers:=[] }:=⟨_,rfl⟩
 have s0 : A0.tmps.size = fn.ntmps:=by rw [hA0]; simp; omega
 have d0 : A0.defers = []:=by rw [hA0]
 rw [<- hA0]
 obtain ⟨v1,s1⟩:=hput A0 a .nilIface s0 ha
 obtain ⟨v2,s2⟩:=hput _ b .nilIface s1 hb'
 obtain ⟨v3,s3⟩:=hput _ c .nilIface s2 hc
 obtain ⟨v4,s4⟩:=hput _ d (.bool false) s3 hd
 simp only [wpOpsSIn,List.getElem?_toArray,List.getElem?_cons_zero,List.getElem?_cons_succ,hrec,hr,Region.wanted,if_true]
 refine ⟨fun _ _ => trivial,fun _ _ => trivial,?_⟩
 simp only [execOp,v1,Sem.run_pure]
 refine wpSIn_seq (wpSIn_region ?_)
 rw [show List.range (#[_,_] : Array Oper).size = [0,1] from rfl]
 simp only [wpOpsSIn,List.getElem?_toArray,List.getElem?_cons_zero,List.getElem?_cons_succ,Region.wanted,if_true]
 refine ⟨fun _ _ => trivial,?_⟩
 simp only [execOp,v2,Sem.run_pure]
 refine ⟨fun _ _ => trivial,?_⟩
 simp only [v3,show ∀ A : Act,A.eval (.const .nilIface) = Value.nilIface from fun _ => rfl,Sem.run_bind,hty,Result.andThen,Sem.run_pure]
 refine wpSIn_cond (t:=false) v4 ?_
 refine wpSIn_of_wpIn rfl ?_
 rw [if_neg (by decide)]
 refine wpIn_skip ⟨d0,.returning,by rw [<- hu],.tuple #[],?_,⟨_,rfl⟩,rfl,rfl⟩
 simp [results,hres]
theorem neq_nil {P : Program} {ty : TypeId} {ms} (h : P.underlying ty = some (.interface ms)) (w : World) : (Go.binOp .neq ty .nilIface .nilIface).run P w = .ok (.bool false) w:=by
 have hd : Op.maxDepth = Nat.succ (Op.maxDepth - 1):=rfl
 rw [show Go.binOp .neq ty .nilIface .nilIface = (do pure (.bool (!(<- Op.equal ty .nilIface .nilIface)))) from rfl,Op.equal,hd,Op.equalIn]
 simp [underlying,h]
theorem quietA_ok {ops : List Oper} {a b : Nat} (h : quietA ops = some (a,b)) : ∃ t0 t1 p0 p1 e0 e1,ops = [{ dst:=some a,op:=.call { callee:=.builtin .recover,args:=#[],argTypes:=#[] },type:=t0,pos:=p0,after:=e0,guard:=none },{ dst:=some b,op:=.assign (.tmp a),type:=t1,pos:=p1,after:=e1,guard:=none }]:=by
 unfold quietA at h
 split at h
 ·rename_i a' t0 p0 e0 b' a'' t1 p1 e1
  split at h
  ·rename_i hb
   have:=Nat.eq_of_beq_eq_true hb
   subst this
   cases h
   exact ⟨_,_,_,_,_,_,rfl⟩
  ·cases h
 ·cases h
theorem quietB_ok {ops : List Oper} {b c d ty : Nat} (h : quietB ops = some (b,c,d,ty)) : ∃ ty2 t0 t1 p0 p1 e0 e1,ops = [{ dst:=some c,op:=.move (.tmp b),type:=t0,pos:=p0,after:=e0,guard:=none },{ dst:=some d,op:=.binOp .neq ty (.tmp c) (.const .nilIface) ty2,type:=t1,pos:=p1,after:=e1,guard:=none }]:=by
 unfold quietB at h
 split at h
 ·split at h
  ·rename_i hb
   have:=Nat.eq_of_beq_eq_true hb
   subst this
   cases h
   exact ⟨_,_,_,_,_,_,_,rfl⟩
  ·cases h
 ·cases h
theorem blt_lt {a b : Nat} (h : Nat.blt a b = true) : a < b:=Nat.le_of_ble_eq_true h
theorem quiet_of {P : Program} {f : FuncId} {caps : List Value} (h : quietFn P f caps.length = true) : Quiet P { target:=.fn (.func f) ⟨caps⟩,args:=#[] }:=by
 unfold quietFn at h
 cases hf : P.funcs[f]? with
 | none => rw [hf] at h; cases h
 | some fn =>
 rw [hf] at h
 simp only at h
 cases hb : fn.body with
 | none => rw [hb] at h; cases h
 | some cd =>
 rw [hb] at h
 simp only [Bool.and_eq_true] at h
 obtain ⟨⟨he,hn⟩,hr,hq⟩:=h
 have hres : fn.results = #[]:=by
  cases hh : fn.results with
  | mk l =>
   cases l with
   | nil => rfl
   | cons x l => rw [hh] at hr; cases hr
 unfold quietCd at hq
 split at hq
 ·rename_i i0 ops0 i1 ops1 d' X
  cases h0 : quietA ops0.toList with
  | none => rw [h0] at hq; cases hq
  | some p =>
  cases h1 : quietB ops1.toList with
  | none => rw [h0,h1] at hq; cases hq
  | some q =>
  rw [h0,h1] at hq
  obtain ⟨a,b⟩:=p
  obtain ⟨b',c,d,ty⟩:=q
  simp only [Bool.and_eq_true] at hq
  obtain ⟨⟨g1,g2⟩,⟨⟨g3,g4⟩,g5,g6⟩,g7⟩:=hq
  have:=Nat.eq_of_beq_eq_true g1
  subst this
  have:=Nat.eq_of_beq_eq_true g2
  subst this
  obtain ⟨t0,t1,p0,p1,e0,e1,k0⟩:=quietA_ok h0
  obtain ⟨ty2,t2,t3,p2,p3,e2,e3,k1⟩:=quietB_ok h1
  have hbody : fn.body = some (quietCode i0 i1 a b c d ty ty2 t0 t1 t2 t3 p0 p1 p2 p3 e0 e1 e2 e3 X):=by
   rw [hb]
   unfold quietCode
   rw [show ops0 = ⟨ops0.toList⟩ from rfl,show ops1 = ⟨ops1.toList⟩ from rfl,k0,k1]
  have hms : ∃ ms,P.underlying ty = some (.interface ms):=by
   split at g7
   ·exact ⟨_,by assumption⟩
   ·cases g7
  obtain ⟨ms,hms⟩:=hms
  refine ⟨_,_,f,⟨caps⟩,rfl,fun w => ?_,fun w => ?_⟩
  ·unfold enters at he
   rw [hf] at he
   simp only [Bool.and_eq_true,Bool.not_eq_true'] at he
   obtain ⟨bd,hbd⟩:=Option.isSome_iff_exists.1 he.2
   have hnm : fn.name ≠ "runtime.NumGoroutine" := by
    intro e; rw [e] at he; simp at he
   simp [invoke,callFunc,hf,hnm,hbd]
  ·exact quiet_calls hf hbody hres (Nat.le_of_ble_eq_true hn) (blt_lt g3) (blt_lt g4) (blt_lt g5) (blt_lt g6) (neq_nil hms)
 ·cases hq
end Ab
