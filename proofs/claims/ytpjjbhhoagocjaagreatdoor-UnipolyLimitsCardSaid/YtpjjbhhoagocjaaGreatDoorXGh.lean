import Derived.Test.YtpjjbhhoagocjaaGreatDoorXGc
import Derived.Test.YtpjjbhhoagocjaaGreatDoorXLib
section
namespace Ab
open Go Go.RowKit
def chn (pv : Value) : List PanicEntry:=[{ v:=pv,recovered:=false }]
def SpecP (P : Program) (gl : List (Nat × AV)) (f : FuncId) (ds : List AV) (pv : Value) : Prop :=
 ∀ (w : World) (F : Foot) (vals : List Value),(∀ b,F b -> b < w.heap.size) -> GlOk w F gl -> RepDL w F ds vals ->
  enters P f = true∧Calls P f ⟨vals⟩ w fun e w' => e = .panicked (chn pv)∧Below w.heap.size w w'
def conc (P : Program) (t : TypeId) : Bool:=match P.underlying t with | some (.interface _) => false | some _ => true | none => false
theorem conc_ok {P : Program} {t : TypeId} (h : conc P t = true) : ∃ u,P.underlying t = some u∧∀ ms,u ≠ .interface ms:=by
 unfold conc at h
 split at h
 ·cases h
 ·rename_i u hu hn
  exact ⟨u,by assumption,fun ms e => hu ms e⟩
 ·cases h
abbrev HQ:=St -> Prop
section
variable (P : Program) (T : List (Nat × TyI)) (gl : List (Nat × AV)) (HD H : Tg -> List AV -> St -> (AV -> St -> Prop) -> Prop) (G : FuncId -> List AV -> St -> (List AV -> St -> (St -> Prop) -> Prop) -> (St -> Prop) -> Prop) (pv : Value)
def opP (ops : Array Oper) (m : Nat) (s : St) (Q : HQ) : Prop :=
 (∃ o g args ts f ds,ops[m]? = some o∧o.op = .call { callee:=.value g,args:=args,argTypes:=ts }∧o.guard = none∧ev gl s g = .fn f []∧(toWs s.hp (evs gl s args.toList) fun d => d = ds)∧SpecP P gl f ds pv∧Q s) ∨
 (∃ o o' t d d' k e,ops[m]? = some o∧ops[m + 1]? = some o'∧o.op = .makeInterface t (.tmp d)∧o.dst = some d'∧o.guard = none∧o'.op = .panic (.tmp d')∧o'.guard = none∧s.tm d = .agg [.int k e] ∧
  conc P t = true∧pv = .iface t (.agg ⟨[.int k e]⟩)∧Q (put (some d') .undef s))
def awPR (ops : Array Oper) (s : St) (Q : HQ) : Prop :=
 deferR ops.toList = none∧∃ m,Nat.ble m ops.size = true∧aOps T gl HD H flagsNo (fun _ => true) ops (ops.toList.take m) s fun s' => opP P gl pv ops m s' Q
def awP : Code -> St -> HQ -> Prop
 | .region _ ops false,s,Q => awPR P T gl HD H pv ops s Q
 | .seq a b,s,Q => awP a s Q ∨ awC T gl HD H G a s fun e s' => match e with | .normal => awP b s' Q | _ => False
 | .cond c a b,s,Q => match ev gl s c with | .bool t => (t = true -> awP a s Q)∧(t = false -> awP b s Q) | _ => False
 | .block _ c,s,Q => awP c s Q
 | .loop c,s,Q => ∃ (I : St -> Prop) (μ : St -> Nat),(∃ s0,LeL s.nx s0 s∧I s0)∧∀ s',I s' -> awP c s' Q ∨ awC T gl HD H G c s' fun e s'' => match e with | .normal => ∃ s0,LeL s.nx s0 s''∧I s0∧μ s0 < μ s' | _ => False
 | _,_,_ => False
end
def PPost (c : Ctx) (N : Nat) (F : Foot) (M : Nat -> Option MB) (w : World) (pv : Value) (Q : HQ) : Exit -> Act -> World -> Prop:=fun e a' w' =>
 e = .panic (chn pv)∧∃ s' F' M',Rel c N F' M' s' a' w'∧Tr F M w F' M' w'∧Q s'
section
variable {c : Ctx} {N : Nat} {F : Foot} {M : Nat -> Option MB} {s : St} {a : Act} {w : World}
variable {HD H : Tg -> List AV -> St -> (AV -> St -> Prop) -> Prop} {G : FuncId -> List AV -> St -> (List AV -> St -> (St -> Prop) -> Prop) -> (St -> Prop) -> Prop} {pv : Value}
theorem aOps_pre {Q : Exit -> Act -> World -> Prop} {K : St -> Prop} (hT : TOk c.P c.T) (hHD : HSound c HD) (hH : HSound c H) {fl : Oper -> Fl} {p : Nat -> Bool} {ops : Array Oper} (hok : ops.toList.all (opOk c.P N) = true) {F0 : Foot} {M0 : Nat -> Option MB} {w0 : World} {rest : List Nat}
  (hC : ∀ s' F' M' a' w',Rel c N F' M' s' a' w' -> Tr F0 M0 w0 F' M' w' -> K s' -> wpOpsIn (Fw none) 0 c.P ops Q rest a' w') :
  ∀ (n i : Nat) (s : St) (F : Foot) (M : Nat -> Option MB) (a : Act) (w : World),i + n <= ops.size -> aOps c.T c.gl HD H fl p ops ((ops.toList.drop i).take n) s K -> Rel c N F M s a w -> Tr F0 M0 w0 F M w ->
   wpOpsIn (Fw none) 0 c.P ops Q (List.range' i n ++ rest) a w
 | 0,i,s,F,M,a,w,hi,hK,h,t => by
   rw [List.take_zero] at hK
   exact hC s F M a w h t hK
 | n + 1,i,s,F,M,a,w,hi,hK,h,t => by
   have hlt : i < ops.toList.length:=by simp; omega
   rw [List.drop_eq_getElem_cons hlt,List.take_succ_cons] at hK
   have hget : ops[i]? = some ops.toList[i]:=by simp
   rw [List.range'_succ,List.cons_append,wpOpsIn_cons]
   rw [aOps_cons] at hK
   exact step_sound hT hHD hH hok hget hK h t fun s' F' M' a' w' r t' k => aOps_pre hT hHD hH hok hC n (i + 1) s' F' M' a' w' (by omega) k r t'
theorem opP_sound {ops : Array Oper} (hok : ops.toList.all (opOk c.P N) = true) {m : Nat} {QP : HQ} {F0 : Foot} {M0 : Nat -> Option MB} {w0 : World} (hK : opP c.P c.gl pv ops m s QP) (h : Rel c N F M s a w) (t0 : Tr F0 M0 w0 F M w) :
  wpOpsIn (Fw none) 0 c.P ops (PPost c N F0 M0 w0 pv QP) (List.range' m (ops.size - m)) a w:=by
 rcases hK with ⟨o,g,args,ts,f,ds,ho,hop,hg,hgv,hd,hs,hq⟩ | ⟨o,o',t,d,d',k,e,ho,ho',hop,hdst,hg,hop',hg',htm,hcn,hpv,hq⟩
 ·have main : ∀ C,o.wpIn (Fw none) 0 c.P a w C (PPost c N F0 M0 w0 pv QP):=by
   intro C
   have hoo:=List.all_eq_true.1 hok o (List.mem_of_getElem? (by simpa using ho))
   have hop2 : ∀ x ∈ o.op.operands.toList,∀ t,x = .tmp t -> t < N:=by
    intro x hx
    simp only [opOk,Bool.and_eq_true] at hoo
    exact opndOk_lt (List.all_eq_true.1 hoo.1.2 x hx)
   rw [hop] at hop2
   have hgt : ∀ t,g = .tmp t -> t < N:=hop2 g (by simp [Op.operands,Call.operands])
   have hxt : ∀ x ∈ args.toList,∀ t,x = .tmp t -> t < N:=fun x hx => hop2 x (by simp [Op.operands,Call.operands,]; exact .inr (by simpa using hx))
   have hg1:=h.ev g hgt
   rw [hgv] at hg1
   unfold RepM at hg1
   obtain ⟨caps,e1,e2⟩:=hg1
   unfold RepML at e2
   subst e2
   have hx1:=h.evs args.toList hxt
   obtain ⟨ds',r1,rfl⟩:=toWs_sound h.toHR _ _ hx1 hd
   obtain ⟨f1,f2⟩:=h.toHR.freezeW (keysWs s.hp (evs c.gl s args.toList))
   obtain ⟨he,hc⟩:=hs w _ _ f1.fl (fun g av hg => f1.gl g av hg) r1
   refine ⟨fun _ _ => trivial,?_⟩
   rw [sem_run (run_call hop e1 rfl he) (by simp)]
   refine ⟨fun _ => by simp_all [Fw],?_⟩
   have e3 : (args.map a.eval ++ (⟨[]⟩ : Array Value)) = ⟨args.toList.map a.eval⟩:=by apply Array.ext'; simp
   rw [e3]
   have hc' : CallsIn Fence.wide 0 c.P f ⟨args.toList.map a.eval⟩ w _:=callsIn_wide.2 hc
   have hc2 : CallsIn (Fw none) 0 c.P f ⟨args.toList.map a.eval⟩ w _:=hc'
   refine CallsIn.mono hc2 fun e w' hh => ?_
   obtain ⟨rfl,hb⟩:=hh
   obtain ⟨g1,g2⟩:=keep_call h.toHR hb
   exact ⟨rfl,s,F,M,⟨g1,fun k hk => (h.tm k hk).tr g2,h.df.tr g2,h.sz⟩,t0.trans g2,hq⟩
  have one : ∀ l,wpOpsIn (Fw none) 0 c.P ops (PPost c N F0 M0 w0 pv QP) (m :: l) a w:=by
   intro l
   simp only [wpOpsIn,ho]
   rw [wanted_none hg]
   simp only [if_true]
   exact main _
  have hlt : m < ops.size:=(Array.getElem?_eq_some_iff.1 ho).1
  rw [show ops.size - m = (ops.size - m - 1) + 1 by omega,List.range'_succ]
  exact one _
 ·obtain ⟨u,hu,hni⟩:=conc_ok hcn
  have hoo:=List.all_eq_true.1 hok o (List.mem_of_getElem? (by simpa using ho))
  have hdN : d < N:=by
   simp only [opOk,Bool.and_eq_true] at hoo
   have:=List.all_eq_true.1 hoo.1.2 (.tmp d) (by rw [hop]; simp [Op.operands])
   exact opndOk_lt this d rfl
  have hd'N : d' < N:=by
   simp only [opOk,Bool.and_eq_true,hdst] at hoo
   exact Nat.le_of_ble_eq_true hoo.1.1
  have hv:=h.tm d hdN
  rw [htm] at hv
  unfold RepM at hv
  obtain ⟨us,hv1,hv2⟩:=hv
  unfold RepML at hv2
  obtain ⟨v1,vs1,rfl,hv3,hv4⟩:=hv2
  unfold RepML at hv4
  subst hv4
  unfold RepM at hv3
  subst hv3
  have hev : a.eval (.tmp d) = .agg ⟨[.int k e]⟩:=hv1
  have hlt : m + 1 < ops.size:=(Array.getElem?_eq_some_iff.1 ho').1
  rw [show ops.size - m = (ops.size - m - 2) + 1 + 1 by omega,List.range'_succ,List.range'_succ]
  ·simp only [wpOpsIn,ho,ho']
   rw [wanted_none hg]
   simp only [if_true]
   refine ⟨fun _ _ => trivial,?_⟩
   have r1 : (execOp a.eval o).run c.P w = .ok (.value pv) w:=by
    rw [hpv]
    simp only [execOp,hop,hev,Instr.makeInterface]
    have : (Go.underlying t).run c.P w = .ok u w:=by simp [Go.underlying,hu]
    simp only [Sem.run_bind,this,Result.andThen]
    cases u with
    | interface ms => exact absurd rfl (hni ms)
    | _ => simp
   rw [sem_run r1 (by simp),Oper.uponIn_value,hdst]
   rw [wanted_none hg']
   simp only [if_true]
   refine ⟨fun _ _ => trivial,?_⟩
   have hev2 : (a.put (some d') pv).eval (.tmp d') = pv:=by
    have : d' < a.tmps.size:=by rw [h.sz]; exact hd'N
    simp [Act.put,Act.eval,Array.getD,this]
   have r2 : (Oper.semAt (Fw none).round (a.put (some d') pv).eval o').run c.P w = .halt (.panic pv) w:=by
    rw [show (Fw none).round = none from rfl,Oper.semAt_none]
    simp only [execOp,hop',hev2]
    rw [hpv]
    simp [Instr.panic,goPanic]
   rw [r2,Oper.uponIn_panic]
   exact ⟨rfl,_,F,M,h.put (d:=some d') (fun t e => by cases e; exact hd'N) (av:=.undef) (v:=pv) (by unfold RepM; trivial),t0,hq⟩
theorem region_split {n m : Nat} (h : m <= n) : List.range n = List.range' 0 m ++ List.range' m (n - m):=by
 obtain ⟨k,rfl⟩ : ∃ k,n = m + k:=⟨n - m,by omega⟩
 rw [List.range_eq_range',<- List.range'_append_1,Nat.zero_add,Nat.add_sub_cancel_left]
theorem awP_sound (hT : TOk c.P c.T) (hM : HMakes HD) (hmo : c.P.follows .mixedOrders = true) (A : List (Nat × Obj) -> Prop) (hHD : ∀ al,A al -> HSound (c.wa al) HD) (hH : ∀ al,A al -> HSound (c.wa al) H)
  (hG : (∀ f cap s r K,¬ G f cap s r K) ∨ ((∀ al,A al)∧∀ al,GSound (c.wa al) G)) (al : List (Nat × Obj)) (hA : A al) :
  ∀ (cd : Code),(c.dx = none ∨ noRange cd = true) -> codeOk c.P N cd = true -> ∀ (s : St) (QP : HQ) (F : Foot) (M : Nat -> Option MB) (a : Act) (w : World),
  awP c.P c.T c.gl HD H G pv cd s QP -> Rel (c.wa al) N F M s a w -> cd.wpIn (Fw none) 0 c.P (PPost (c.wa al) N F M w pv QP) a w
 | .region id ops false,hdx,hok,s,QP,F,M,a,w,hK,h => by
   refine wpIn_region ?_
   unfold codeOk at hok
   unfold awP at hK
   obtain ⟨hd,m,hm,hK⟩:=hK
   have hm:=Nat.le_of_ble_eq_true hm
   rw [hd] at hok
   rw [region_split hm]
   refine aOps_pre (c:=c.wa al) hT (hHD al hA) (hH al hA) hok (K:=fun s' => opP c.P c.gl pv ops m s' QP) (fun s' F' M' a' w' r t k => ?_) m 0 s F M a w (by omega) (by simpa using hK) h (Tr.refl F M w)
   exact opP_sound (c:=c.wa al) hok k r t
 | .seq x y,hdx,hok,s,QP,F,M,a,w,hK,h => by
   unfold codeOk at hok
   simp only [Bool.and_eq_true] at hok
   unfold awP at hK
   have hdx1 : c.dx = none ∨ noRange x = true:=hdx.imp (fun h => h) fun h => by simp only [noRange,Bool.and_eq_true] at h; exact h.1
   have hdx2 : c.dx = none ∨ noRange y = true:=hdx.imp (fun h => h) fun h => by simp only [noRange,Bool.and_eq_true] at h; exact h.2
   rcases hK with hK | hK
   ·refine wpIn_seq (wpIn_mono (awP_sound hT hM hmo A hHD hH hG al hA x hdx1 hok.1 s QP F M a w hK h) fun e a' w' hq => ?_)
    obtain ⟨rfl,hq⟩:=hq
    exact ⟨rfl,hq⟩
   ·refine wpIn_seq (wpIn_mono (awC_sound hT hM hmo A hHD hH hG x al none hA (.inl rfl) hdx1 hok.1 s _ F M a w hK h) fun e a' w' hq => ?_)
    obtain ⟨s',F',M',r,t,k⟩:=hq
    cases e with
    | normal =>
     refine wpIn_mono (awP_sound hT hM hmo A hHD hH hG al hA y hdx2 hok.2 s' QP F' M' a' w' k r) fun e' a'' w'' hq' => ?_
     obtain ⟨e1,s'',F'',M'',r',t',k'⟩:=hq'
     exact ⟨e1,s'',F'',M'',r',t.trans t',k'⟩
    | _ => exact k.elim
 | .cond x y z,hdx,hok,s,QP,F,M,a,w,hK,h => by
   unfold codeOk at hok
   simp only [Bool.and_eq_true] at hok
   unfold awP at hK
   have hx:=h.ev x (opndOk_lt hok.1)
   generalize hax : ev c.gl s x = ax at hK
   rw [show ev (c.wa al).gl s x = ax from hax] at hx
   cases ax with
   | bool b =>
    unfold RepM at hx
    refine wpIn_cond hx ?_
    cases b with
    | true => exact awP_sound hT hM hmo A hHD hH hG al hA y (hdx.imp (fun h => h) fun h => by simp only [noRange,Bool.and_eq_true] at h; exact h.1) hok.2.1 s QP F M a w (hK.1 rfl) h
    | false => exact awP_sound hT hM hmo A hHD hH hG al hA z (hdx.imp (fun h => h) fun h => by simp only [noRange,Bool.and_eq_true] at h; exact h.2) hok.2.2 s QP F M a w (hK.2 rfl) h
   | _ => exact hK.elim
 | .block id x,hdx,hok,s,QP,F,M,a,w,hK,h => by
   unfold codeOk at hok
   unfold awP at hK
   refine wpIn_block (wpIn_mono (awP_sound hT hM hmo A hHD hH hG al hA x (hdx.imp (fun h => h) fun h => by simpa only [noRange] using h) hok s QP F M a w hK h) fun e a' w' hq => ?_)
   obtain ⟨rfl,hq⟩:=hq
   exact ⟨rfl,hq⟩
 | .loop x,hdx,hok,s,QP,F,M,a,w,hK,h => by
   unfold codeOk at hok
   unfold awP at hK
   have hdx1 : c.dx = none ∨ noRange x = true:=hdx.imp (fun h => h) fun h => by simpa only [noRange] using h
   obtain ⟨I,μ,⟨s0,hl,hI⟩,hround⟩:=hK
   have hd : ∀ k,s.nx <= k -> M k = none:=fun k hk => (h.dom k hk).1
   have weak : ∀ (a' : Act) (w' : World) (s'' s1 : St) (F'' : Foot) (M'' : Nat -> Option MB),Rel (c.wa al) N F'' M'' s'' a' w' -> Tr F M w F'' M'' w' -> LeL s.nx s1 s'' -> ∃ F3 M3,Rel (c.wa al) N F3 M3 s1 a' w'∧Tr F M w F3 M3 w':=by
    intro a' w' s'' s1 F'' M'' r' t hl1
    rcases hl1 with hl1 | hl1 | ⟨ρ,ks,hl1⟩
    ·exact ⟨F'',M'',r'.of_le hl1,t⟩
    ·have tc:=t.cut hd
     exact ⟨F'',cutM s.nx M'',r'.of_leC hl1 (h.base.tr tc),tc⟩
    ·have tc:=t.ren (ks:=ks) (hp:=s''.hp) hd hl1.id hl1.nx
     exact ⟨_,_,r'.of_leR hl1 (h.base.tr tc),tc⟩
   obtain ⟨F3,M3,r3,t3⟩:=weak a w s s0 F M h (Tr.refl F M w) hl
   refine wp_loop' (fun n a' w' => ∃ s' F' M',Rel (c.wa al) N F' M' s' a' w'∧Tr F M w F' M' w'∧I s'∧μ s' = n) ?_ ⟨s0,F3,M3,r3,t3,hI,rfl⟩
   rintro n a' w' ⟨s',F',M',r,t,hI',rfl⟩
   rcases hround s' hI' with hR | hR
   ·refine wpIn_mono (awP_sound hT hM hmo A hHD hH hG al hA x hdx1 hok s' QP F' M' a' w' hR r) fun e a'' w'' hq => ?_
    obtain ⟨rfl,s'',F'',M'',r',t',k'⟩:=hq
    exact ⟨rfl,s'',F'',M'',r',t.trans t',k'⟩
   ·refine wpIn_mono (awC_sound hT hM hmo A hHD hH hG x al none hA (.inl rfl) hdx1 hok s' _ F' M' a' w' hR r) fun e a'' w'' hq => ?_
    obtain ⟨s'',F'',M'',r',t',k⟩:=hq
    cases e with
    | normal =>
     obtain ⟨s1,hl1,hI1,hm⟩:=k
     obtain ⟨F4,M4,r4,t4⟩:=weak a'' w'' s'' s1 F'' M'' r' (t.trans t') hl1
     exact ⟨_,hm,s1,F4,M4,r4,t4,hI1,rfl⟩
    | _ => exact k.elim
 | .region _ _ true,hdx,hok,s,QP,F,M,a,w,hK,h => by unfold awP at hK; exact hK.elim
 | .skip,_,_,s,QP,F,M,a,w,hK,h => by unfold awP at hK; exact hK.elim
 | .exit _,_,_,s,QP,F,M,a,w,hK,h => by unfold awP at hK; exact hK.elim
 | .ret,_,_,s,QP,F,M,a,w,hK,h => by unfold awP at hK; exact hK.elim
 | .rangeFunc ..,_,_,s,QP,F,M,a,w,hK,h => by unfold awP at hK; exact hK.elim
 | .scope _,_,_,s,QP,F,M,a,w,hK,h => by unfold awP at hK; exact hK.elim
 | .label _,_,_,s,QP,F,M,a,w,hK,h => by unfold awP at hK; exact hK.elim
 | .goto _,_,_,s,QP,F,M,a,w,hK,h => by unfold awP at hK; exact hK.elim
 | .refuse _,_,_,s,QP,F,M,a,w,hK,h => by unfold awP at hK; exact hK.elim
end
theorem specP_of {P : Program} {T : List (Nat × TyI)} {gl : List (Nat × AV)} (hT : TOk P T) (hmo : P.follows .mixedOrders = true) (n : Nat) {f : FuncId} {fn : Func} {cd : Code} {ds : List AV} {pv : Value}
  (hf : P.funcs[f]? = some fn) (hb : fn.body = some cd) (he : enters P f = true) (hok : codeOk P fn.ntmps cd = true) (hN : Nat.ble ds.length fn.ntmps = true) (hnr : noRange cd = true)
  (hK : awP P T gl (callX P gl (Hn P T gl n)) (Hn P T gl n) (Gn P T gl (Hn P T gl n)) pv cd ⟨tmOf ds,fun _ => none,0⟩ fun _ => True) : SpecP P gl f ds pv:=by
 intro w F vals hF hg hv
 refine ⟨he,?_⟩
 let c : Ctx:={ P:=P,T:=T,gl:=gl,w0:=w,F0:=F,dx:=some [] }
 have h : HR c F (fun _ => none) (fun _ => none) 0 w:=⟨(fun _ _ h => by cases h),(fun _ _ _ _ h => by cases h),(fun _ _ _ h => by cases h),fun _ _ _ _ h => absurd rfl h,fun _ _ => ⟨rfl,rfl⟩,hF,fun b h => .inl h,hg,Below.refl _ _,fun _ _ h => (by cases h),fun _ h => (by cases h),fun _ h => (by cases h),fun _ h => (by cases h),fun _ _ h => (by cases h)⟩
 refine (callsIn_wide (n:=0)).1 (callsIn_of_wp_marks hf hb trivial (wpIn_mono (awP_sound (c:=c) hT (callX_makes P gl _) hmo (fun _ => True) (fun al _ => callX_sound (Hn_sound (c:=c) hT hmo n _ rfl rfl rfl)) (fun al _ => Hn_sound (c:=c) hT hmo n _ rfl rfl rfl)
  (.inr ⟨fun _ => trivial,fun al => Gn_sound (c:=c.wa al) hT hmo fun c'' g1 g2 g3 => Hn_sound (c:=c) hT hmo n c'' g1 g2 g3⟩) [] trivial cd (.inr hnr) hok _ _ F _ _ w hK (enter_rel (fun D h => by cases h; rfl) h (RepML.of_D _ _ hv) (Nat.le_of_ble_eq_true hN))) fun e a' w' hq => ?_))
 obtain ⟨rfl,s',F',M',r,t,_⟩:=hq
 have hd : a'.defers = []:=r.df.1 [] rfl
 show LeavesInM Fence.wide 0 P fn a'.tmps _ a'.defers (.panicking (chn pv)) w'
 rw [hd]
 exact ⟨rfl,r.bel⟩
end Ab
end
section
namespace Ab
open Go Go.RowKit
def recR (P : Program) (T : List (Nat × TyI)) (gl : List (Nat × AV)) (n : Nat) (pv : Value) (g : FuncId) (cs : List AV) (rs : List ResultVar) (r : AV) (s : St) : Prop :=
 ∃ gfn i0 ops0 i1 ops1 X a b c d ty ms,P.funcs[g]? = some gfn∧gfn.body = some (Code.seq (.region i0 ops0 false) (.seq (.region i1 ops1 false) (.cond (.tmp d) X .skip)))∧quietA ops0.toList = some (a,b)∧quietB ops1.toList = some (b,c,d,ty) ∧
  enters P g = true∧(and (Nat.ble cs.length gfn.ntmps) (and (and (Nat.blt a gfn.ntmps) (Nat.blt b gfn.ntmps)) (and (Nat.blt c gfn.ntmps) (Nat.blt d gfn.ntmps)))) = true∧gfn.results.toList = []∧P.underlying ty = some (.interface ms) ∧
  codeOk P gfn.ntmps X = true∧noRange X = true ∧
  awC T gl (callX P gl (Hn P T gl n)) (Hn P T gl n) (Gn P T gl (Hn P T gl n)) X (put (some d) (.bool true) (put (some c) (.lit pv) (put (some b) (.lit pv) (put (some a) (.lit pv) ⟨tmOf cs,s.hp,s.nx⟩)))) fun e s3 => (e = .normal ∨ e = .ret) ∧
   resA T ⟨s.tm,s3.hp,s3.nx⟩ rs fun vs => toWR s3.hp (resV vs) fun d => d = r
theorem neq_iface {P : Program} {ty t : TypeId} {x : Value} {ms} (h : P.underlying ty = some (.interface ms)) (w : World) : (Go.binOp .neq ty (.iface t x) .nilIface).run P w = .ok (.bool true) w:=by
 have hd : Op.maxDepth = Nat.succ (Op.maxDepth - 1):=rfl
 rw [show Go.binOp .neq ty (.iface t x) .nilIface = (do pure (.bool (!(<- Op.equal ty (.iface t x) .nilIface)))) from rfl,Op.equal,hd,Op.equalIn]
 simp [underlying,h]
section
variable {c : Ctx} {F : Foot} {M : Nat -> Option MB} {w : World}
theorem rec_calls (hT : TOk c.P c.T) (hmo : c.P.follows .mixedOrders = true) (n : Nat) {t : TypeId} {x : Value} {g : FuncId} {cs : List AV} {vals : List Value} {rs : List ResultVar} {r : AV} {s : St} (hK : recR c.P c.T c.gl n (.iface t x) g cs rs r s)
  (h : HR c F M s.hp s.nx w) (hv : RepML w F M cs vals) :
  CallsDIn Fence.wide 0 c.P g ⟨vals⟩ (.panicking (chn (.iface t x))) w fun e u' w' => (∃ v,e = .returned v)∧settle u' = .returning ∧
   ∃ (s3 : St) (F' : Foot) (M' : Nat -> Option MB),HR c F' M' s3.hp s3.nx w'∧Tr F M w F' M' w'∧resA c.T ⟨s.tm,s3.hp,s3.nx⟩ rs fun vs => toWR s3.hp (resV vs) fun d => d = r:=by
 obtain ⟨gfn,i0,ops0,i1,ops1,X,a,b,cc,d,ty,ms,hf,hb,h0,h1,he,hbd,hres,hty,hok,hnr,hX⟩:=hK
 simp only [Bool.and_eq_true] at hbd
 obtain ⟨g1,⟨ga,gb⟩,gc,gd⟩:=hbd
 have g1:=Nat.le_of_ble_eq_true g1
 have ga:=blt_lt ga
 have gb:=blt_lt gb
 have gc:=blt_lt gc
 have gd:=blt_lt gd
 obtain ⟨t0,t1,p0,p1,e0,e1,k0⟩:=quietA_ok h0
 obtain ⟨ty2,t2,t3,p2,p3,e2,e3,k1⟩:=quietB_ok h1
 have hvl:=RepML.len _ _ hv
 refine callsDIn_of_wpSIn hf hb trivial fun c₀ css hu => ?_
 rw [show ops0 = ⟨ops0.toList⟩ from rfl,show ops1 = ⟨ops1.toList⟩ from rfl,k0,k1]
 have hr : recoverD (c₀ :: css) = some (.iface t x,{ c₀ with mode:=.panicking [{ v:=.iface t x,recovered:=true }] } :: css):=by simp [recoverD,hu,chn]
 have hrec : ∀ (ev : Operand -> Value) (w : World),(execOp ev { dst:=some a,op:=.call { callee:=.builtin .recover,args:=#[],argTypes:=#[] },type:=t0,pos:=p0,after:=e0,guard:=none }).run c.P w = .ok .recover w:=by
  intro ev w
  simp [execOp,resolve,invoke,builtin]
 have hput : ∀ (A : Act) (t : Tmp) (v : Value),A.tmps.size = gfn.ntmps -> t < gfn.ntmps -> (A.put (some t) v).eval (.tmp t) = v∧(A.put (some t) v).tmps.size = gfn.ntmps:=by
  intro A t v h1 h2
  refine ⟨?_,by simp [Act.put,h1]⟩
  simp [Act.put,Act.eval,Array.getD,h1,h2]
 let c3 : Ctx:=c.wx (some [])
 have hc3 : HR c3 F M s.hp s.nx w:=h.redx _
 have R0 : Rel c3 gfn.ntmps F M ⟨tmOf cs,s.hp,s.nx⟩ { tmps:=(⟨vals⟩ : Array Value) ++ Array.replicate (gfn.ntmps - (⟨vals⟩ : Array Value).size) undef,defers:=[] } w :=
  enter_rel (c:=c3) (fun D h => by cases h; rfl) hc3 hv g1
 obtain ⟨A0,hA0⟩ : ∃ A0 : Act,A0 = { tmps:=(⟨vals⟩ : Array Value) ++ Array.replicate (gfn.ntmps - (⟨vals⟩ : Array Value).size) undef,defers:=[] }:=⟨_,rfl⟩
 rw [<- hA0] at R0 ⊢
 have lit : ∀ w' : World,RepM w' F M (.lit (.iface t x)) (.iface t x):=fun w' => by unfold RepM; rfl
 have R1:=R0.put (d:=some a) (fun t e => by cases e; exact ga) (lit w)
 have R2:=R1.put (d:=some b) (fun t e => by cases e; exact gb) (lit w)
 have R3:=R2.put (d:=some cc) (fun t e => by cases e; exact gc) (lit w)
 have R4:=R3.put (d:=some d) (av:=.bool true) (v:=.bool true) (fun t e => by cases e; exact gd) (by unfold RepM; rfl)
 obtain ⟨v1,s1⟩:=hput A0 a (.iface t x) R0.sz ga
 obtain ⟨v2,s2⟩:=hput _ b (.iface t x) s1 gb
 obtain ⟨v3,s3⟩:=hput _ cc (.iface t x) s2 gc
 obtain ⟨v4,s4⟩:=hput _ d (.bool true) s3 gd
 refine wpSIn_seq (wpSIn_region ?_)
 rw [show List.range (#[_,_] : Array Oper).size = [0,1] from rfl]
 simp only [wpOpsSIn,List.getElem?_toArray,List.getElem?_cons_zero,List.getElem?_cons_succ,hrec,hr,Region.wanted,if_true]
 refine ⟨fun _ _ => trivial,fun _ _ => trivial,?_⟩
 simp only [execOp,v1,Sem.run_pure]
 refine wpSIn_seq (wpSIn_region ?_)
 rw [show List.range (#[_,_] : Array Oper).size = [0,1] from rfl]
 simp only [wpOpsSIn,List.getElem?_toArray,List.getElem?_cons_zero,List.getElem?_cons_succ,Region.wanted,if_true]
 refine ⟨fun _ _ => trivial,?_⟩
 simp only [execOp,v2,Sem.run_pure]
 refine ⟨fun _ _ => trivial,?_⟩
 simp only [v3,show ∀ A : Act,A.eval (.const .nilIface) = Value.nilIface from fun _ => rfl,Sem.run_bind,neq_iface hty,Result.andThen,Sem.run_pure]
 refine wpSIn_cond (t:=true) v4 ?_
 refine wpSIn_of_wpIn rfl ?_
 rw [if_pos rfl]
 refine wpIn_mono (awC_sound (c:=c3) hT (callX_makes c.P c.gl _) hmo (fun _ => True) (fun al _ => callX_sound (Hn_sound (c:=c3) hT hmo n _ rfl rfl rfl)) (fun al _ => Hn_sound (c:=c3) hT hmo n _ rfl rfl rfl)
  (.inr ⟨fun _ => trivial,fun al => Gn_sound (c:=c3.wa al) hT hmo fun c'' g1 g2 g3 => Hn_sound (c:=c3) hT hmo n c'' g1 g2 g3⟩) X c.al none trivial (.inl rfl) (.inr hnr) hok _ _ F M _ w hX R4) fun e a' w' hq => ?_
 obtain ⟨s5,F5,M5,r5,t5,he5,hfin⟩:=hq
 have hd5 : a'.defers = []:=r5.df.1 [] rfl
 have fin : (∃ u',({ c₀ with mode:=FrameMode.panicking [{ v:=.iface t x,recovered:=true }] } :: css) = { c₀ with mode:=u' } :: css∧∃ v,(results gfn a'.tmps).run c.P w' = .ok v w'∧((∃ v',Ending.returned v = .returned v')∧settle u' = .returning ∧
   ∃ (s3 : St) (F' : Foot) (M' : Nat -> Option MB),HR c F' M' s3.hp s3.nx w'∧Tr F M w F' M' w'∧resA c.T ⟨s.tm,s3.hp,s3.nx⟩ rs fun vs => toWR s3.hp (resV vs) fun d => d = r)):=by
  refine ⟨_,rfl,.tuple #[],?_,⟨_,rfl⟩,rfl,s5,F5,M5,?_,t5,hfin⟩
  ·have : gfn.results = #[]:=by
    cases hh : gfn.results with
    | mk l => rw [hh] at hres; simp at hres; rw [hres]
   simp [results,this]
  ·have:=r5.toHR.redx c.dx
   exact this
 rcases he5 with rfl | rfl
 ·exact ⟨hd5,fin⟩
 ·exact ⟨hd5,fin⟩
end
theorem specR_of {P : Program} {T : List (Nat × TyI)} {gl : List (Nat × AV)} (hT : TOk P T) (hmo : P.follows .mixedOrders = true) (n : Nat) {f : FuncId} {fn : Func} {R0 rest : Code} {i1 : Nat} {ops1 : Array Oper} {d g : Nat} {cap : List Operand} {ds : List AV} {r : AV} {t : TypeId} {x : Value}
  (hf : P.funcs[f]? = some fn) (hb : fn.body = some (.seq R0 (.seq (.region i1 ops1 false) rest))) (he : enters P f = true) (hok : codeOk P fn.ntmps (.seq R0 (.seq (.region i1 ops1 false) rest)) = true) (hN : Nat.ble ds.length fn.ntmps = true)
  (hr : (fn.results.toList.all fun r => match r with | .tmp t => Nat.blt t fn.ntmps | .cell a _ => Nat.blt a fn.ntmps) = true) (hdf : deferR ops1.toList = some (d,g,cap)) (hnr : and (noRange R0) (noRange rest) = true)
  (hK : awC T gl (callX P gl (Hn P T gl n)) (Hn P T gl n) (Gn P T gl (Hn P T gl n)) R0 ⟨tmOf ds,fun _ => none,0⟩ fun e s1 => e = .normal∧forceL (evs gl s1 cap) fun cs =>
   awP P T gl (callX P gl (Hn P T gl n)) (Hn P T gl n) (Gn P T gl (Hn P T gl n)) (.iface t x) rest (put (some d) (.fn g cs) s1) (recR P T gl n (.iface t x) g cs fn.results.toList r)) : Spec P gl f ds r:=by
 intro w F vals hF hg hv
 refine .inl ⟨he,?_⟩
 simp only [Bool.and_eq_true] at hnr
 simp only [codeOk,Bool.and_eq_true] at hok
 obtain ⟨hok0,hok1,hok2⟩:=hok
 rw [hdf] at hok1
 simp only [Bool.and_eq_true] at hok1
 obtain ⟨hd1,hd2,hd3⟩:=hok1
 let c : Ctx:={ P:=P,T:=T,gl:=gl,w0:=w,F0:=F,dx:=some [] }
 have h : HR c F (fun _ => none) (fun _ => none) 0 w:=⟨(fun _ _ h => by cases h),(fun _ _ _ _ h => by cases h),(fun _ _ _ h => by cases h),fun _ _ _ _ h => absurd rfl h,fun _ _ => ⟨rfl,rfl⟩,hF,fun b h => .inl h,hg,Below.refl _ _,fun _ _ h => (by cases h),fun _ h => (by cases h),fun _ h => (by cases h),fun _ h => (by cases h),fun _ _ h => (by cases h)⟩
 have hHn : ∀ c' : Ctx,c'.P = P -> c'.T = T -> c'.gl = gl -> HSound c' (Hn P T gl n):=fun c' g1 g2 g3 => Hn_sound (c:=c) hT hmo n c' g1 g2 g3
 refine (callsIn_wide (n:=0)).1 (callsIn_of_wp_marks hf hb trivial (wpIn_seq (wpIn_mono (awC_sound (c:=c) hT (callX_makes P gl _) hmo (fun _ => True) (fun al _ => callX_sound (hHn _ rfl rfl rfl)) (fun al _ => hHn _ rfl rfl rfl)
  (.inr ⟨fun _ => trivial,fun al => Gn_sound (c:=c.wa al) hT hmo fun c'' g1 g2 g3 => hHn c'' g1 g2 g3⟩) R0 [] none trivial (.inl rfl) (.inr hnr.1) hok0 _ _ F _ _ w hK (enter_rel (fun D h => by cases h; rfl) h (RepML.of_D _ _ hv) (Nat.le_of_ble_eq_true hN))) fun e a1 w1 hq => ?_)))
 obtain ⟨s1,F1,M1,r1,t1,rfl,hP⟩:=hq
 rw [forceL_eq] at hP
 obtain ⟨cs,hcs⟩ : ∃ cs,evs gl s1 cap = cs:=⟨_,rfl⟩
 rw [hcs] at hP
 have ha1 : a1.defers = []:=r1.df.1 [] rfl
 obtain ⟨tt0,tt1,p0,p1,e0,e1,ts,eo⟩:=deferR_ok hdf
 have heo : ops1 = #[{ dst:=some d,op:=.makeFunc (.func g) #[] ⟨cap⟩,type:=tt0,pos:=p0,after:=e0,guard:=none },{ dst:=none,op:=.defer { callee:=.value (.tmp d),args:=#[],argTypes:=ts },type:=tt1,pos:=p1,after:=e1,guard:=none }]:=by
  rw [show ops1 = ⟨ops1.toList⟩ from rfl,eo]
 subst heo
 have hdN : d < fn.ntmps:=blt_lt hd1
 have hcap : ∀ x ∈ cap,∀ t,x = .tmp t -> t < fn.ntmps:=fun x hx => opndOk_lt (List.all_eq_true.1 hd2 x hx)
 have hlen : (cap.map a1.eval).length = cap.length:=by simp
 have hcv:=r1.evs _ hcap
 rw [hcs] at hcv
 have hrp:=r1.put (d:=some d) (av:=.fn g cs) (v:=.func (.func g) #[] ⟨cap.map a1.eval⟩) (fun t e => by cases e; exact hdN) (by unfold RepM; exact ⟨_,rfl,hcv⟩)
 have hvv : (a1.put (some d) (.func (.func g) #[] ⟨cap.map a1.eval⟩)).eval (.tmp d) = .func (.func g) #[] ⟨cap.map a1.eval⟩:=by
  have : d < a1.tmps.size:=by rw [r1.sz]; exact hdN
  simp [Act.put,Act.eval,Array.getD,this]
 refine wpIn_seq (wpIn_region ?_)
 rw [show List.range (#[_,_] : Array Oper).size = [0,1] from rfl]
 simp only [wpOpsIn,List.getElem?_toArray,List.getElem?_cons_zero,List.getElem?_cons_succ,Region.wanted,if_true]
 refine ⟨fun _ _ => trivial,?_⟩
 have q1 : (Oper.semAt Fence.wide.round a1.eval { dst:=some d,op:=.makeFunc (.func g) #[] ⟨cap⟩,type:=tt0,pos:=p0,after:=e0,guard:=none }).run P w1 = .ok (.value (.func (.func g) #[] ⟨cap.map a1.eval⟩)) w1:=by
  rw [show Fence.wide.round = none from rfl,Oper.semAt_none]
  simp [execOp,Instr.makeFunc]
 rw [q1,Oper.uponIn_value]
 refine ⟨fun _ _ => trivial,?_⟩
 have q2 : (Oper.semAt Fence.wide.round (a1.put (some d) (.func (.func g) #[] ⟨cap.map a1.eval⟩)).eval { dst:=none,op:=.defer { callee:=.value (.tmp d),args:=#[],argTypes:=ts },type:=tt1,pos:=p1,after:=e1,guard:=none }).run P w1 = .ok (.defer { target:=.fn (.func g) ⟨cap.map a1.eval⟩,args:=#[] }) w1:=by
  rw [show Fence.wide.round = none from rfl,Oper.semAt_none]
  simp [execOp,resolve,hvv,Deferred.ofValue]
 rw [q2,Oper.uponIn_defer]
 obtain ⟨d0,hd0⟩ : ∃ d0 : Deferred,d0 = { target:=.fn (.func g) ⟨cap.map a1.eval⟩,args:=#[] }:=⟨_,rfl⟩
 have hq0 : Quiet P d0:=by rw [hd0]; exact quiet_of (by rw [hlen]; exact hd3)
 rw [<- hd0]
 let c2 : Ctx:=c.wx (some [d0])
 obtain ⟨a2,ha2⟩ : ∃ a2 : Act,a2 = ({ a1.put (some d) (.func (.func g) #[] ⟨cap.map a1.eval⟩) with defers:=d0 :: (a1.put (some d) (.func (.func g) #[] ⟨cap.map a1.eval⟩)).defers } : Act).put none undef:=⟨_,rfl⟩
 rw [<- ha2]
 have hd2' : a2.defers = [d0]:=by rw [ha2]; show d0 :: a1.defers = [d0]; rw [ha1]
 have ht2 : a2.tmps = (a1.put (some d) (.func (.func g) #[] ⟨cap.map a1.eval⟩)).tmps:=by rw [ha2]; rfl
 have r2 : Rel (c2.wa []) fn.ntmps F1 M1 (put (some d) (.fn g cs) s1) a2 w1 :=
  ⟨hrp.toHR.redx (some [d0]),fun t ht => by rw [ht2]; exact hrp.tm t ht,⟨fun D h => by cases h; exact hd2',fun e he => by rw [hd2'] at he; rw [List.mem_singleton.1 he]; exact .inr hq0,by rw [hd2',hq0.dmarks]; exact List.nodup_nil,fun D hD => by rw [hd2',hq0.dmarks] at hD; cases hD⟩,by rw [ht2]; exact hrp.sz⟩
 refine wpIn_mono (awP_sound (c:=c2) hT (callX_makes P gl _) hmo (fun _ => True) (fun al _ => callX_sound (hHn _ rfl rfl rfl)) (fun al _ => hHn _ rfl rfl rfl)
  (.inr ⟨fun _ => trivial,fun al => Gn_sound (c:=c2.wa al) hT hmo fun c'' g1 g2 g3 => hHn c'' g1 g2 g3⟩) [] trivial rest (.inr hnr.2) hok2 _ _ F1 M1 a2 w1 hP r2) fun e a3 w3 hq => ?_
 obtain ⟨rfl,s',F3,M3,r3,t3,hrec⟩:=hq
 have hd3' : a3.defers = [d0]:=r3.df.1 [d0] rfl
 show LeavesInM Fence.wide 0 P fn a3.tmps _ a3.defers (.panicking (chn (.iface t x))) w3
 rw [hd3']
 have hge : enters P g = true:=by
  obtain ⟨_,_,_,_,_,_,_,_,_,_,_,_,_,_,_,_,h,_⟩:=hrec
  exact h
 refine ⟨by simp,.inr ⟨fun h => by simp [Fence.wide] at h,.func g,⟨cap.map a1.eval⟩,g,⟨cap.map a1.eval⟩,by rw [hd0],?_,fun _ _ => trivial,?_⟩⟩
 ·rw [hd0]
  unfold enters at hge
  cases hgf : P.funcs[g]? with
  | none => rw [hgf] at hge; cases hge
  | some gn =>
   rw [hgf] at hge
   simp only [Bool.and_eq_true,Bool.not_eq_true'] at hge
   obtain ⟨bd,hbd⟩:=Option.isSome_iff_exists.1 hge.2
   have hnm : gn.name ≠ "runtime.NumGoroutine" := by
      intro e; rw [e] at hge; simp at hge
   simp [invoke,callFunc,hgf,hnm,hbd]
 ·have hrc:=rec_calls (c:=c2.wa []) (w:=w3) (F:=F3) (M:=M3) hT hmo n hrec r3.toHR (hcv.tr t3)
  refine CallsDIn.mono hrc fun e u' w4 hh => ?_
  obtain ⟨⟨v,rfl⟩,hu,s5,F5,M5,h5,t5,hres⟩:=hh
  show LeavesInM Fence.wide 0 P fn a3.tmps _ [] (settle u') w4
  rw [hu]
  have h5' : HR (c2.wx (some [])) F5 M5 s5.hp s5.nx w4:=h5.redx _
  have hrel : Rel (c2.wx (some [])) fn.ntmps F5 M5 ⟨s'.tm,s5.hp,s5.nx⟩ { tmps:=a3.tmps,defers:=[] } w4:=⟨h5',fun t ht => (r3.tm t ht).tr t5,DfOk.nil (fun D h => by cases h; rfl),r3.sz⟩
  obtain ⟨vs,v2,k1,k2,k3⟩:=results_run (c:=c2.wx (some [])) hT hrel fn hr hres
  refine ⟨v2,k1,v2,rfl,?_⟩
  obtain ⟨d',g1,rfl⟩:=toWR_sound h5' k2 k3
  obtain ⟨f1,f2⟩:=h5'.freezeW (keysWR s5.hp (resV vs))
  refine ⟨RepD.mono (fun b hb => ?_) (fun _ _ => rfl) _ _ g1,h5'.bel⟩
  rcases f1.hist b hb with h6 | h6
  ·exact .inl h6
  ·exact .inr ⟨h6,f1.fl b hb⟩
end Ab
end
section
namespace Ab
open Go Go.RowKit
theorem specP_fn {P : Program} {T : List (Nat × TyI)} {gl : List (Nat × AV)} (hT : TOk P T) (hmo : P.follows .mixedOrders = true) (n : Nat) {f : FuncId} {fn : Func} {ds : List AV} {pv : Value} (h1 : P.funcs[f]? = some fn) (h2 : fnOk P f fn = true) (hN : and (Nat.ble ds.length fn.ntmps) (noRange (fn.body.getD .skip)) = true)
  (hK : awP P T gl (callX P gl (Hn P T gl n)) (Hn P T gl n) (Gn P T gl (Hn P T gl n)) pv (fn.body.getD .skip) ⟨tmOf ds,fun _ => none,0⟩ fun _ => True) : SpecP P gl f ds pv:=by
 obtain ⟨cd,g1,g2,g3,g4⟩:=fnOk_parts h2
 rw [g1] at hK hN
 simp only [Bool.and_eq_true] at hN
 exact specP_of hT hmo n h1 g1 g2 g3 hN.1 hN.2 hK
def recB (gfn : Func) : Option (Code × Nat × Nat × Nat × Nat × Nat) :=
 match gfn.body with
 | some (.seq (.region _ ops0 false) (.seq (.region _ ops1 false) (.cond (.tmp d') X .skip))) => match quietA ops0.toList,quietB ops1.toList with
  | some (a,b),some (b',c,d,ty) => match and (Nat.beq b' b) (Nat.beq d' d) with
   | true => some (X,a,b,c,d,ty)
   | false => none
  | _,_ => none
 | _ => none
def isIf (P : Program) (ty : TypeId) : Bool:=match P.underlying ty with | some (.interface _) => true | _ => false
def recOk (P : Program) (g : FuncId) (gfn : Func) (n : Nat) : Bool :=
 match recB gfn with
 | some (X,a,b,c,d,ty) => and (enters P g) (and (and (Nat.ble n gfn.ntmps) (and (and (Nat.blt a gfn.ntmps) (Nat.blt b gfn.ntmps)) (and (Nat.blt c gfn.ntmps) (Nat.blt d gfn.ntmps)))) (and (and gfn.results.toList.isEmpty (isIf P ty)) (and (codeOk P gfn.ntmps X) (noRange X))))
 | none => false
theorem rec_fn {P : Program} {T : List (Nat × TyI)} {gl : List (Nat × AV)} {n : Nat} {pv : Value} {g : FuncId} {gfn : Func} {cs : List AV} {rs : List ResultVar} {r : AV} {s : St} (h1 : P.funcs[g]? = some gfn) (h2 : recOk P g gfn cs.length = true)
  (hK : match recB gfn with
   | some (X,a,b,c,d,_) => awC T gl (callX P gl (Hn P T gl n)) (Hn P T gl n) (Gn P T gl (Hn P T gl n)) X (put (some d) (.bool true) (put (some c) (.lit pv) (put (some b) (.lit pv) (put (some a) (.lit pv) ⟨tmOf cs,s.hp,s.nx⟩)))) fun e s3 => (e = .normal ∨ e = .ret) ∧
     resA T ⟨s.tm,s3.hp,s3.nx⟩ rs fun vs => toWR s3.hp (resV vs) fun d => d = r
   | none => False) : recR P T gl n pv g cs rs r s:=by
 unfold recOk at h2
 cases hB : recB gfn with
 | none => rw [hB] at h2; cases h2
 | some p =>
  obtain ⟨X,a,b,c,d,ty⟩:=p
  rw [hB] at h2 hK
  simp only [Bool.and_eq_true] at h2
  obtain ⟨k1,k2,⟨k3,k4⟩,k5,k6⟩:=h2
  unfold recB at hB
  split at hB
  ·rename_i i0 ops0 i1 ops1 d' X' hbody
   split at hB
   ·rename_i a' b' b'' c' d'' ty' hA hB'
    split at hB
    ·rename_i hb
     simp only [Bool.and_eq_true] at hb
     have e1:=Nat.eq_of_beq_eq_true hb.1
     have e2:=Nat.eq_of_beq_eq_true hb.2
     subst e1 e2
     cases hB
     have hms : ∃ ms,P.underlying ty = some (.interface ms):=by
      unfold isIf at k4
      split at k4
      ·exact ⟨_,by assumption⟩
      ·cases k4
     obtain ⟨ms,hms⟩:=hms
     exact ⟨gfn,i0,ops0,i1,ops1,_,_,_,_,_,_,ms,h1,hbody,hA,hB',k1,by simp only [Bool.and_eq_true]; exact k2,List.isEmpty_iff.1 k3,hms,k5,k6,hK⟩
    ·cases hB
   ·cases hB
  ·cases hB
theorem specR_fn {P : Program} {T : List (Nat × TyI)} {gl : List (Nat × AV)} (hT : TOk P T) (hmo : P.follows .mixedOrders = true) (n : Nat) {f : FuncId} {fn : Func} {ds : List AV} {r : AV} (t : TypeId) (x : Value) (h1 : P.funcs[f]? = some fn) (h2 : fnOk P f fn = true) (hN : Nat.ble ds.length fn.ntmps = true)
  (hK : match fn.body with
   | some (.seq R0 (.seq (.region _ ops1 false) rest)) => match deferR ops1.toList with
    | some (d,g,cap) => and (noRange R0) (noRange rest) = true∧awC T gl (callX P gl (Hn P T gl n)) (Hn P T gl n) (Gn P T gl (Hn P T gl n)) R0 ⟨tmOf ds,fun _ => none,0⟩ fun e s1 => e = .normal ∧
      forceL (evs gl s1 cap) fun cs => awP P T gl (callX P gl (Hn P T gl n)) (Hn P T gl n) (Gn P T gl (Hn P T gl n)) (.iface t x) rest (put (some d) (.fn g cs) s1) (recR P T gl n (.iface t x) g cs fn.results.toList r)
    | none => False
   | _ => False) : Spec P gl f ds r:=by
 obtain ⟨cd,g1,g2,g3,g4⟩:=fnOk_parts h2
 split at hK
 ·rename_i R0 i1 ops1 rest hb
  split at hK
  ·rename_i d g cap hdf
   rw [hb] at g1
   cases g1
   exact specR_of hT hmo n h1 hb g2 g3 hN g4 hdf hK.1 hK.2
  ·exact hK.elim
 ·exact hK.elim
end Ab
end
