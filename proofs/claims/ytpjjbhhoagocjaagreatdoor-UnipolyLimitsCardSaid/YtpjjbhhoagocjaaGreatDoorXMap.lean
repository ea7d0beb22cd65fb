import Derived.Test.YtpjjbhhoagocjaaGreatDoorXGb
import Derived.MapKept
import Derived.RangeFuncRecord
import Derived.ChangeKeysEq
import Derived.DeepKeys3
namespace Ab
open Go Go.RowKit
section
variable {P : Program} {kt : TypeId}
theorem pair_ty (h : isPair P kt = true) : ∃ e i,P.underlying kt = some (.array 2 e)∧P.cellsOf e = 1∧P.underlying e = some (.int .i64)∧P.info? e = some i:=by
 unfold isPair at h
 split at h
 ·rename_i n e hu
  simp only [Bool.and_eq_true] at h
  obtain ⟨h1,h2,h3⟩:=h
  have h1:=Nat.eq_of_beq_eq_true h1
  have h2:=Nat.eq_of_beq_eq_true h2
  subst h1
  split at h3
  ·rename_i he
   obtain ⟨i,hi⟩:=Option.isSome_iff_exists.1 h3
   exact ⟨e,i,hu,h2,he,hi⟩
  ·cases h3
 ·cases h
theorem part_at {e : TypeId} (he : P.underlying e = some (.int .i64)) (h1 : P.cellsOf e = 1) (w : World) {xs : Array Value} {j : Nat} {v : Value} (hv : xs[j]? = some v) : (part e xs (j * P.cellsOf e)).run P w = .ok v w:=by
 rw [h1,Nat.mul_one]
 simp [part,isAgg,run_underlying he,hv]
theorem part_0 {e : TypeId} (he : P.underlying e = some (.int .i64)) (h1 : P.cellsOf e = 1) (w : World) (a b : Int) : (part e #[.int .i64 a,.int .i64 b] (0 * P.cellsOf e)).run P w = .ok (.int .i64 a) w:=part_at he h1 w rfl
theorem part_1 {e : TypeId} (he : P.underlying e = some (.int .i64)) (h1 : P.cellsOf e = 1) (w : World) (a b : Int) : (part e #[.int .i64 a,.int .i64 b] (1 * P.cellsOf e)).run P w = .ok (.int .i64 b) w:=part_at he h1 w rfl
theorem check_pair (h : isPair P kt = true) (em : Bool) (w : World) (a b : Int) : (Instr.checkKey em 10000 kt (.agg #[.int .i64 a,.int .i64 b])).run P w = .ok () w:=by
 obtain ⟨e,i,hu,h1,he,hi⟩:=pair_ty h
 have hc : ∀ n : Int,(Instr.checkKey em 9999 e (.int .i64 n)).run P w = .ok () w:=by
  intro n
  rw [show (9999 : Nat) = 9998 + 1 from rfl,Instr.checkKey]
  simp [run_underlying he]
 rw [show (10000 : Nat) = 9999 + 1 from rfl,Instr.checkKey]
 simp only [Sem.run_bind,run_underlying hu,Result.andThen_ok]
 simp only [Std.Legacy.Range.forIn_eq_forIn_range',Std.Legacy.Range.size,Nat.sub_zero,Nat.add_one_sub_one,Nat.div_one]
 rw [show List.range' 0 2 = [0,1] from rfl]
 simp only [List.forIn_cons,Sem.run_bind,run_sizeOf w hi,Result.andThen_ok,part_0 he h1,part_1 he h1,hc,Sem.run_pure,List.forIn_nil]
theorem equal_pair (h : isPair P kt = true) (w : World) (x y : Int × Int) : (Op.equal kt (.agg #[.int .i64 x.1,.int .i64 x.2]) (.agg #[.int .i64 y.1,.int .i64 y.2])).run P w = .ok (eqP x y) w:=by
 obtain ⟨e,i,hu,h1,he,hi⟩:=pair_ty h
 obtain ⟨a,b⟩:=x
 obtain ⟨c,d⟩:=y
 have hq : ∀ m n : Int,(Op.equalIn 9999 e (.int .i64 m) (.int .i64 n)).run P w = .ok (m == n) w:=fun m n => by
  rw [show (9999 : Nat) = 9998 + 1 from rfl,run_equalIn_int w 9998 e .i64 .i64 m n he]
 show (Op.equalIn (9999 + 1) kt _ _).run P w = _
 rw [run_equalIn_array w 9999 _ _ hu hi]
 rw [show List.range 2 = [0,1] from rfl]
 have p1 : ∀ a b : Int,(part e #[.int .i64 a,.int .i64 b] (P.cellsOf e)).run P w = .ok (.int .i64 b) w:=fun a b => by
  have:=part_1 he h1 w a b
  rwa [Nat.one_mul] at this
 simp only [Op.eqItems,Sem.run_bind,part_0 he h1,hq,Result.andThen_ok,eqP,Nat.one_mul]
 cases (a == c) with
 | false => simp
 | true => cases hbd : (b == d) <;> simp [p1,hq,hbd]
theorem asking_pair (h : isPair P kt = true) (w : World) (x : Int × Int) : ∀ (es : List ((Int × Int) × AV)) (l : List MapEntry) (i : Nat),RepE es l ->
  (findP x es = none∧(Instr.findAsking kt (.agg #[.int .i64 x.1,.int .i64 x.2]) l i).run P w = .ok none w) ∨
  ∃ v j,findP x es = some v∧plainV v = true∧(Instr.findAsking kt (.agg #[.int .i64 x.1,.int .i64 x.2]) l i).run P w = .ok (some (i + j,plainOf v)) w ∧
   (∀ u,setP x u es = es.set j (x,u))∧∃ e,l[j]? = some e∧e.key = .agg #[.int .i64 x.1,.int .i64 x.2]
 | [],l,i,hr => by
  unfold RepE at hr
  subst hr
  exact .inl ⟨rfl,by simp [Instr.findAsking]⟩
 | (k,v) :: es,l,i,hr => by
  unfold RepE at hr
  obtain ⟨e,l',rfl,h1,⟨h2,h3⟩,h4⟩:=hr
  have hq:=equal_pair h w x k
  rw [<- h1] at hq
  cases hb : eqP x k with
  | true =>
   right
   have hx : x = k:=by
    unfold eqP at hb
    obtain ⟨a,b⟩:=x
    obtain ⟨c,d⟩:=k
    simp only [Bool.and_eq_true,beq_iff_eq] at hb
    rw [hb.1,hb.2]
   refine ⟨v,0,by simp [findP,hb],h2,by simp [Instr.findAsking,hq,hb,h3],fun u => (by simp only [setP,hb]; rw [hx]; rfl),e,rfl,by rw [h1,hx]⟩
  | false =>
   rcases asking_pair h w x es l' (i + 1) h4 with ⟨f1,f2⟩ | ⟨u,j,f1,f2,f3,f4,e',f5,f6⟩
   ·left
    exact ⟨by simp [findP,hb,f1],by simp [Instr.findAsking,hq,hb,f2]⟩
   ·right
    exact ⟨u,j + 1,by simp [findP,hb,f1],f2,by simp [Instr.findAsking,hq,hb,f3,Nat.add_assoc,Nat.add_comm 1 j],fun y => by simp [setP,hb,f4 y],e',by simpa using f5,f6⟩
theorem now_pair (h : isPair P kt = true) {d : TypeDesc} (hd : P.underlying kt = some d) (x : Value) : ∀ (l : List MapEntry) (i : Nat),l ≠ [] -> Instr.findNow d x l i = none:=by
 obtain ⟨e,i,hu,_⟩:=pair_ty h
 rw [hu] at hd
 cases hd
 intro l i hl
 cases l with
 | nil => exact absurd rfl hl
 | cons y l => simp [Instr.findNow,Instr.sameNow]
theorem find_pair (h : isPair P kt = true) (w : World) (x : Int × Int) {es : List ((Int × Int) × AV)} {l : List MapEntry} (hr : RepE es l) :
  (findP x es = none∧(Instr.findKey kt (.agg #[.int .i64 x.1,.int .i64 x.2]) l).run P w = .ok none w) ∨
  ∃ v j,findP x es = some v∧plainV v = true∧(Instr.findKey kt (.agg #[.int .i64 x.1,.int .i64 x.2]) l).run P w = .ok (some (j,plainOf v)) w ∧
   (∀ u,setP x u es = es.set j (x,u))∧∃ e,l[j]? = some e∧e.key = .agg #[.int .i64 x.1,.int .i64 x.2]:=by
 obtain ⟨e,i,hu,_⟩:=pair_ty h
 cases l with
 | nil =>
  left
  cases es with
  | nil => exact ⟨rfl,by simp [Instr.findKey,run_underlying hu,Instr.findNow]⟩
  | cons q es =>
   obtain ⟨k,v⟩:=q
   unfold RepE at hr
   obtain ⟨_,_,hh,_⟩:=hr
   cases hh
 | cons y l =>
  have hn:=now_pair h hu (.agg #[.int .i64 x.1,.int .i64 x.2]) (y :: l) 0 (by simp)
  have:=asking_pair h w x es (y :: l) 0 hr
  simp only [Nat.zero_add] at this
  have e1 : (Instr.findKey kt (.agg #[.int .i64 x.1,.int .i64 x.2]) (y :: l)).run P w = (Instr.findAsking kt (.agg #[.int .i64 x.1,.int .i64 x.2]) (y :: l)).run P w:=by
   simp only [Instr.findKey,Sem.run_bind,run_underlying hu,Result.andThen_ok,hn]
  rw [e1]
  exact this
theorem setP_none {x : Int × Int} {u : AV} : ∀ {es : List ((Int × Int) × AV)},findP x es = none -> setP x u es = es ++ [(x,u)]
 | [],_ => rfl
 | (k,v) :: es,h => by
  cases hb : eqP x k with
  | true => simp [findP,hb] at h
  | false =>
   simp only [findP,hb] at h
   simp [setP,hb,setP_none h]
theorem RepE.snoc {x : Int × Int} {u : AV} {e : MapEntry} (h1 : e.key = .agg #[.int .i64 x.1,.int .i64 x.2]) (h2 : plainV u = true) (h3 : e.val = plainOf u) : ∀ {es : List ((Int × Int) × AV)} {l : List MapEntry},RepE es l -> RepE (es ++ [(x,u)]) (l ++ [e])
 | [],l,h => by
  unfold RepE at h
  subst h
  show RepE ((x,u) :: []) [e]
  unfold RepE
  exact ⟨e,[],rfl,h1,⟨h2,h3⟩,by unfold RepE; rfl⟩
 | (k,v) :: es,l,h => by
  unfold RepE at h
  obtain ⟨y,l',rfl,g1,g2,g3⟩:=h
  show RepE ((k,v) :: (es ++ [(x,u)])) (y :: (l' ++ [e]))
  unfold RepE
  exact ⟨y,_,rfl,g1,g2,RepE.snoc h1 h2 h3 g3⟩
theorem RepE.set {x : Int × Int} {u : AV} {e : MapEntry} (h1 : e.key = .agg #[.int .i64 x.1,.int .i64 x.2]) (h2 : plainV u = true) (h3 : e.val = plainOf u) : ∀ {es : List ((Int × Int) × AV)} {l : List MapEntry} {j : Nat},RepE es l -> RepE (es.set j (x,u)) (l.set j e)
 | [],l,j,h => by
  unfold RepE at h
  subst h
  show RepE [] []
  unfold RepE; rfl
 | (k,v) :: es,l,j,h => by
  unfold RepE at h
  obtain ⟨y,l',rfl,g1,g2,g3⟩:=h
  cases j with
  | zero =>
   show RepE ((x,u) :: es) (e :: l')
   unfold RepE
   exact ⟨e,_,rfl,h1,⟨h2,h3⟩,g3⟩
  | succ j =>
   show RepE ((k,v) :: es.set j (x,u)) (y :: l'.set j e)
   unfold RepE
   exact ⟨y,_,rfl,g1,g2,RepE.set h1 h2 h3 g3⟩
theorem RepE.len : ∀ {es : List ((Int × Int) × AV)} {l : List MapEntry},RepE es l -> l.length = es.length
 | [],l,h => by unfold RepE at h; rw [h]; rfl
 | _ :: es,l,h => by
  unfold RepE at h
  obtain ⟨e,l',rfl,_,_,h⟩:=h
  rw [List.length_cons,List.length_cons,RepE.len h]
theorem mp_ty {t : TypeId} {i : TyI} {z : AV} (h : tyOf P t = some i) (hs : i.mp = some z) : ∃ k e,P.underlying t = some (.map k e)∧isPair P k = true∧zeroT P e = some z:=by
 unfold tyOf at h
 split at h
 ·rename_i ti d e1 e2
  split at h
  ·rename_i z e3
   cases hq : Nat.beq z.cells.size ti.size with
   | false => rw [hq] at h; cases h
   | true =>
    rw [hq] at h
    simp only [cond_true,Option.some.injEq] at h
    subst h
    cases d with
    | map k e =>
     simp only at hs
     cases hk : isPair P k with
     | false => rw [hk] at hs; cases hs
     | true => rw [hk] at hs; exact ⟨k,e,e2,hk,hs⟩
    | _ => simp at hs
  ·cases h
 ·cases h
theorem plain_ofV {v : Value} (h : plainV (ofV v) = true) : plainOf (ofV v) = v:=by
 cases v with
 | int k n => rfl
 | bool b => rfl
 | slice p n c => cases p <;> cases n <;> cases c <;> simp [ofV,plainV] at h
 | pointer p => cases p <;> simp [ofV,plainV] at h
 | _ => simp [ofV,plainV] at h
theorem plainV_rep {w : World} {F : Foot} {M : Nat -> Option MB} {v : AV} (h : plainV v = true) : RepM w F M v (plainOf v):=by
 cases v <;> simp [plainV] at h
 ·unfold RepM; rfl
 ·unfold RepM; rfl
theorem plain_val {w : World} {F : Foot} {M : Nat -> Option MB} {v : AV} {x : Value} (h : plainV v = true) (hr : RepM w F M v x) : x = plainOf v:=by
 cases v <;> simp [plainV] at h
 ·unfold RepM at hr; exact hr
 ·unfold RepM at hr; exact hr
theorem zero_run {e : TypeId} {z : AV} (h : zeroT P e = some z) (hp : plainV z = true) (w : World) : (zeroValue e).run P w = .ok (plainOf z) w:=by
 unfold zeroT at h
 split at h
 ·rename_i i hi
  split at h
  ·rename_i v hv
   simp only [Option.some.injEq] at h
   subst h
   rw [plain_ofV hp]
   simp [zeroValue,typeInfo,hi,hv]
  ·cases h
 ·cases h
theorem pairOf_rep {w : World} {F : Foot} {M : Nat -> Option MB} {v : AV} {x : Value} {p : Int × Int} (h : pairOf v = some p) (hr : RepM w F M v x) : x = .agg #[.int .i64 p.1,.int .i64 p.2]:=by
 unfold pairOf at h
 split at h
 ·simp only [Option.some.injEq] at h
  subst h
  unfold RepM at hr
  obtain ⟨vs,rfl,hr⟩:=hr
  unfold RepML at hr
  obtain ⟨a,as,rfl,ha,hr⟩:=hr
  unfold RepML at hr
  obtain ⟨b,bs,rfl,hb,hr⟩:=hr
  unfold RepML at hr
  unfold RepM at ha hb
  subst ha hb hr
  rfl
 ·cases h
theorem stays_pair (w : World) (a b : Int) : (Instr.keyThatStays (.agg #[.int .i64 a,.int .i64 b]) (.agg #[.int .i64 a,.int .i64 b])).run P w = .ok (.agg #[.int .i64 a,.int .i64 b]) w:=by
 have : Instr.sameBits 10000 (.agg #[.int .i64 a,.int .i64 b]) (.agg #[.int .i64 a,.int .i64 b]) = true:=by
  rw [show (10000 : Nat) = 9998 + 1 + 1 from rfl]
  simp [Instr.sameBits]
 simp [Instr.keyThatStays,this]
end
section
variable {c : Ctx} {ro : Option Nat} {N : Nat} {F F' : Foot} {M M' : Nat -> Option MB} {s : St} {a : Act} {w w' : World} {P : Program} {o : Oper} {K : St -> Prop} {Q : Exit -> Act -> World -> Prop}
theorem op_makeMap {t : TypeId} (ho : o.op = .makeMap t none) (h : Rel c N F M s a w) (hd : ∀ t,o.dst = some t -> t < N)
  (hK : K (Ab.put o.dst (.mv s.nx) (Ab.alloc (.mp []) s))) : o.wpIn (Fw ro) 0 P a w (Post c N F M w K) Q:=by
 have key:=h.toHR.growB (w':=w.alloc (.map #[] 0)) none (m:=⟨w.heap.size,0,0,0⟩) (blk:=.mp []) (fun b hb _ => alloc_heap _ b hb) (by simp) (fun k hk => by cases hk) (.inl (Nat.le_refl _))
  (h.bel.alloc h.bel.size _) (fun hh => absurd rfl (hh [])) fun t => ⟨#[],0,heap_alloc_new w _,rfl⟩
 refine wp_next h hd key.1 key.2 (v:=.map (some w.heap.size)) ?_ ?_ hK
 ·simp [execOp,ho,Instr.makeMap]
 ·unfold RepM; exact ⟨_,if_pos rfl,rfl⟩
theorem op_lookup {t : TypeId} {m x : Operand} {ok : Bool} (ho : o.op = .lookup t m x ok) (hT : TOk P c.T) (h : Rel c N F M s a w) (hd : ∀ t,o.dst = some t -> t < N) (hm : ∀ t,m = .tmp t -> t < N) (hx : ∀ t,x = .tmp t -> t < N)
  (hK : aLookup c.T t (Ab.ev c.gl s m) (Ab.ev c.gl s x) ok s fun v => K (Ab.put o.dst v s)) : o.wpIn (Fw ro) 0 P a w (Post c N F M w K) Q:=by
 have hm':=h.ev m hm
 have hx':=h.ev x hx
 generalize Ab.ev c.gl s m = am at hm' hK
 generalize Ab.ev c.gl s x = ax at hx' hK
 unfold aLookup at hK
 cases hz : (look c.T t).bind fun i => i.mp with
 | none => rw [hz] at hK; exact hK.elim
 | some z =>
  rw [hz] at hK
  obtain ⟨i,hl,hi⟩:=Option.bind_eq_some_iff.1 hz
  obtain ⟨kt,et,hu,hp,hze⟩:=mp_ty (hT t i hl) hi
  simp only at hK
  cases hpz : plainV z with
  | false => rw [hpz] at hK; exact hK.elim
  | true =>
   rw [hpz] at hK
   cases am with
   | mv k =>
    simp only at hK
    cases hb : s.hp k with
    | none => rw [hb] at hK; exact hK.elim
    | some b =>
     rw [hb] at hK
     cases b with
     | mp es =>
      simp only at hK
      obtain ⟨mb,h1,h2,h3,ents,clock,h4,h5⟩:=h.mp k es hb
      unfold RepM at hm'
      obtain ⟨mb',g1,g2⟩:=hm'
      rw [h1] at g1; cases g1
      have hgo : (getObj mb.b).run P w = .ok (.map ents clock) w:=by simp [getObj,Sem.run,h4]
      cases hpo : pairOf ax with
      | none => rw [hpo] at hK; exact hK.elim
      | some p =>
       rw [hpo] at hK
       have hxv:=pairOf_rep hpo hx'
       simp only at hK
       have hc:=fun em => check_pair hp em w p.1 p.2
       rcases find_pair hp w p h5 with ⟨f1,f2⟩ | ⟨v,j,f1,f2,f3,_⟩
       ·rw [f1] at hK
        have hr : ∀ q,(Instr.lookup t (a.eval m) (a.eval x) q).run P w = .ok (if q then .tuple #[plainOf z,.bool false] else plainOf z) w:=by
         intro q
         rw [g2,hxv]
         simp only [Instr.lookup,Sem.run_bind,run_underlying hu,Result.andThen_ok,hgo,hc,f2,zero_run hze hpz,Sem.run_pure]
        cases ok with
        | true =>
         refine wp_pure h hd (v:=.tuple #[plainOf z,.bool false]) ?_ ?_ hK
         ·simp [execOp,ho,hr]
         ·unfold RepM; exact ⟨_,rfl,by unfold RepML; exact ⟨_,_,rfl,plainV_rep hpz,by unfold RepML; exact ⟨_,_,rfl,by unfold RepM; rfl,by unfold RepML; rfl⟩⟩⟩
        | false =>
         refine wp_pure h hd (v:=plainOf z) ?_ (plainV_rep hpz) hK
         simp [execOp,ho,hr]
       ·rw [f1] at hK
        have hr : ∀ q,(Instr.lookup t (a.eval m) (a.eval x) q).run P w = .ok (if q then .tuple #[plainOf v,.bool true] else plainOf v) w:=by
         intro q
         rw [g2,hxv]
         simp only [Instr.lookup,Sem.run_bind,run_underlying hu,Result.andThen_ok,hgo,hc,f3,Sem.run_pure]
        cases ok with
        | true =>
         refine wp_pure h hd (v:=.tuple #[plainOf v,.bool true]) ?_ ?_ hK
         ·simp [execOp,ho,hr]
         ·unfold RepM; exact ⟨_,rfl,by unfold RepML; exact ⟨_,_,rfl,plainV_rep f2,by unfold RepML; exact ⟨_,_,rfl,by unfold RepM; rfl,by unfold RepML; rfl⟩⟩⟩
        | false =>
         refine wp_pure h hd (v:=plainOf v) ?_ (plainV_rep f2) hK
         simp [execOp,ho,hr]
     | _ => exact hK.elim
   | _ => exact hK.elim
theorem op_mapLen {t : TypeId} {x : Operand} {args : Array Operand} {ts : Array TypeId} {z : AV} (ha : args = #[x]) (hts : ts = #[t]) (ho : o.op = .call { callee:=.builtin .len,args:=args,argTypes:=ts })
  (hT : TOk P c.T) (hz : ((look c.T t).bind fun i => i.mp) = some z) (h : Rel c N F M s a w) (hd : ∀ t,o.dst = some t -> t < N) (hx : ∀ t,x = .tmp t -> t < N)
  (hK : aMapLen (Ab.ev c.gl s x) s fun v => K (Ab.put o.dst v s)) : o.wpIn (Fw ro) 0 P a w (Post c N F M w K) Q:=by
 subst ha hts
 have hx':=h.ev x hx
 generalize Ab.ev c.gl s x = ax at hx' hK
 unfold aMapLen at hK
 obtain ⟨i,hl,hi⟩:=Option.bind_eq_some_iff.1 hz
 obtain ⟨kt,et,hu,_,_⟩:=mp_ty (hT t i hl) hi
 cases ax with
 | mv k =>
  simp only at hK
  cases hb : s.hp k with
  | none => rw [hb] at hK; exact hK.elim
  | some b =>
   rw [hb] at hK
   cases b with
   | mp es =>
    simp only at hK
    obtain ⟨mb,h1,h2,h3,ents,clock,h4,h5⟩:=h.mp k es hb
    unfold RepM at hx'
    obtain ⟨mb',g1,g2⟩:=hx'
    rw [h1] at g1; cases g1
    have hgo : (getObj mb.b).run P w = .ok (.map ents clock) w:=by simp [getObj,Sem.run,h4]
    have hlen : ents.size = es.length:=by rw [<- h5.len]; simp
    refine wp_pure h hd (v:=.int .i64 es.length) ?_ (by unfold RepM; rfl) hK
    simp [execOp,ho,resolve,invoke,builtin,Builtin.len_,run_underlying hu,goInt,g2,hgo,hlen]
   | _ => exact hK.elim
 | _ => exact hK.elim
theorem op_mapSet {t : TypeId} {m x y : Operand} (ho : o.op = .mapUpdate t m x y) (hT : TOk P c.T) (h : Rel c N F M s a w) (hd : ∀ t,o.dst = some t -> t < N) (hm : ∀ t,m = .tmp t -> t < N) (hx : ∀ t,x = .tmp t -> t < N) (hy : ∀ t,y = .tmp t -> t < N)
  (hK : aMapSet c.T t (Ab.ev c.gl s m) (Ab.ev c.gl s x) (Ab.ev c.gl s y) s fun s' => K (Ab.put o.dst .undef s')) : o.wpIn (Fw ro) 0 P a w (Post c N F M w K) Q:=by
 have hm':=h.ev m hm
 have hx':=h.ev x hx
 have hy':=h.ev y hy
 generalize Ab.ev c.gl s m = am at hm' hK
 generalize Ab.ev c.gl s x = ax at hx' hK
 generalize Ab.ev c.gl s y = ay at hy' hK
 unfold aMapSet at hK
 cases hz : (look c.T t).bind fun i => i.mp with
 | none => rw [hz] at hK; exact hK.elim
 | some z =>
  rw [hz] at hK
  obtain ⟨i,hl,hi⟩:=Option.bind_eq_some_iff.1 hz
  obtain ⟨kt,et,hu,hp,hze⟩:=mp_ty (hT t i hl) hi
  simp only at hK
  cases am with
  | mv k =>
   simp only at hK
   cases hb : s.hp k with
   | none => rw [hb] at hK; exact hK.elim
   | some b =>
    rw [hb] at hK
    cases b with
    | mp es =>
     simp only at hK
     obtain ⟨mb,h1,h2,h3,ents,clock,h4,h5⟩:=h.mp k es hb
     unfold RepM at hm'
     obtain ⟨mb',g1,g2⟩:=hm'
     rw [h1] at g1; cases g1
     have hgo : (getObj mb.b).run P w = .ok (.map ents clock) w:=by simp [getObj,Sem.run,h4]
     have hso : ∀ ob,(setObj mb.b ob).run P w = .ok () (w.putObj mb.b ob):=fun ob => by simp [setObj,Sem.run,h4,World.putObj]
     have hlt : mb.b < w.heap.size:=(Array.getElem?_eq_some_iff.1 h4).1
     cases hpo : pairOf ax with
     | none => rw [hpo] at hK; exact hK.elim
     | some p =>
      rw [hpo] at hK
      have hxv:=pairOf_rep hpo hx'
      simp only at hK
      cases hpy : plainV ay with
      | false => rw [hpy] at hK; exact hK.elim
      | true =>
       rw [hpy] at hK
       have hyv:=plain_val hpy hy'
       have hc:=fun em => check_pair hp em w p.1 p.2
       have fin : ∀ (ents' : Array MapEntry) (clock' : Nat),RepE (setP p ay es) ents'.toList -> (Instr.mapUpdate t (a.eval m) (a.eval x) (a.eval y)).run P w = .ok () (w.putObj mb.b (.map ents' clock')) ->
         o.wpIn (Fw ro) 0 P a w (Post c N F M w K) Q:=by
        intro ents' clock' hr hrun
        obtain ⟨k1,k2⟩:=h.toHR.writeB (w':=w.putObj mb.b (.map ents' clock')) (k:=k) (m:=mb) (blk:=.mp (setP p ay es)) (by rw [hb]; simp) h1 h3 (fun b hb => World.putObj_heap_other hb) (World.putObj_size ..)
         ⟨h.bel.os,h.bel.tape,h.bel.output,by rw [World.putObj_size]; exact h.bel.size,fun b hb => (World.putObj_heap_other (by omega)).trans (h.bel.block b hb)⟩ (fun hh => absurd rfl (hh _)) fun t => ⟨ents',clock',World.putObj_heap_same hlt,hr⟩
        refine wp_skip' h hd k1 k2 ?_ hK
        simp [execOp,ho,hrun]
       rcases find_pair hp w p h5 with ⟨f1,f2⟩ | ⟨v,j,f1,f2,f3,f4,e,f5,f6⟩
       ·refine fin (ents.push { key:=.agg #[.int .i64 p.1,.int .i64 p.2],val:=plainOf ay,born:=clock }) (clock + 1) ?_ ?_
        ·rw [setP_none f1,Array.toList_push]
         exact h5.snoc rfl hpy rfl
        ·rw [g2,hxv,hyv]
         simp only [Instr.mapUpdate,Sem.run_bind,run_underlying hu,Result.andThen_ok,hgo,hc,f2,hso]
       ·refine fin (ents.set! j { key:=.agg #[.int .i64 p.1,.int .i64 p.2],val:=plainOf ay,born:=e.born }) clock ?_ ?_
        ·rw [f4 ay,Array.set!_eq_setIfInBounds,Array.toList_setIfInBounds]
         exact h5.set rfl hpy rfl
        ·rw [g2,hxv,hyv]
         have fe : ents[j]? = some e:=by simpa using f5
         have hmod : (ents.modify j fun e => { e with key:=.agg #[.int .i64 p.1,.int .i64 p.2],val:=plainOf ay }) = ents.set! j { key:=.agg #[.int .i64 p.1,.int .i64 p.2],val:=plainOf ay,born:=e.born }:=by
          apply Array.ext_getElem?
          intro q
          rw [Array.getElem?_modify,Array.set!_eq_setIfInBounds,Array.getElem?_setIfInBounds]
          by_cases hq : j = q
          ·subst hq
           have hjl : j < ents.size:=(Array.getElem?_eq_some_iff.1 fe).1
           have fe':=(Array.getElem?_eq_some_iff.1 fe).2
           simp [hjl,fe']
          ·simp [hq]
         simp only [Instr.mapUpdate,Sem.run_bind,run_underlying hu,Result.andThen_ok,hgo,hc,f3,fe,Option.map_some,Option.getD_some,f6,stays_pair,hmod,hso]
    | _ => exact hK.elim
  | _ => exact hK.elim
end
end Ab
