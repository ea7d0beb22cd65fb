import Derived.Test.YtpjjbhhoagocjaaGreatDoorXGa
import Derived.ArgAppend
section
namespace Ab
open Go Go.RowKit
section
variable {c : Ctx} {ro : Option Nat} {N : Nat} {F F' : Foot} {M M' : Nat -> Option MB} {s : St} {a : Act} {w w' : World} {P : Program} {o : Oper} {K : St -> Prop} {Q : Exit -> Act -> World -> Prop}
theorem run_slice {t et : TypeId} {te : TypeInfo} (hu : P.underlying t = some (.slice et)) (hi : P.info? et = some te) {lo hi' : Option Value} {p : Option Addr} {n cp l h : Nat}
  (hhi : (hi' = none∧h = n) ∨ ∃ k i,hi' = some (.int k i)∧0 <= i∧i <= (n : Int)∧h = i.toNat)
  (hlo : (lo = none∧l = 0) ∨ ∃ k i,lo = some (.int k i)∧0 <= i∧i <= (h : Int)∧l = i.toNat) (hn : n <= cp) :
  (Instr.sliceAt t (.slice p n cp) lo hi' none).run P w = .ok (.slice (if cp = l then p else p.map (·.add (l * te.size))) (h - l) (cp - l)) w:=by
 have hs : (Go.sizeOf et).run P w = .ok te.size w:=by simp [Go.sizeOf,typeInfo,hi]
 rcases hhi with ⟨rfl,rfl⟩ | ⟨k,i,rfl,h0,h1,rfl⟩
 ·rcases hlo with ⟨rfl,rfl⟩ | ⟨k',i',rfl,h0',h1',rfl⟩
  ·simp [Instr.sliceAt,run_underlying hu,Instr.slice,Instr.sliceBounds,hs]
  ·simp [Instr.sliceAt,run_underlying hu,Instr.slice,Instr.sliceBounds,Instr.sliceBound,asIntOf,h0',h1',hs]
 ·have h2 : i <= (cp : Int):=by omega
  rcases hlo with ⟨rfl,rfl⟩ | ⟨k',i',rfl,h0',h1',rfl⟩
  ·simp [Instr.sliceAt,run_underlying hu,Instr.slice,Instr.sliceBounds,Instr.sliceBound,asIntOf,h0,h2,hs]
  ·have h3 : i' <= ((i.toNat : Nat) : Int):=h1'
   simp only [Instr.sliceAt,run_underlying hu,Instr.slice,Instr.sliceBounds,Instr.sliceBound,asIntOf,hs,Sem.run_bind,Sem.run_pure,Result.andThen,h0,h2,h0',h3,and_self,if_true]
theorem op_slice {lim : Option (Nat -> Bool)} {t : TypeId} {x : Operand} {lo hi' : Option Operand} (ho : o.op = .slice t x lo hi' none) (hT : TOk P c.T) (h : Rel c N F M s a w) (hd : ∀ t,o.dst = some t -> t < N) (hx : ∀ t,x = .tmp t -> t < N)
  (hlo : ∀ y,lo = some y -> ∀ t,y = .tmp t -> t < N) (hhi : ∀ y,hi' = some y -> ∀ t,y = .tmp t -> t < N)
  (hK : aSlice c.T lim t (ev c.gl s x) (lo.map (ev c.gl s)) (hi'.map (ev c.gl s)) s fun v => K (Ab.put o.dst v s)) : o.wpIn (Fw ro) 0 P a w (Post c N F M w K) Q:=by
 have hx':=h.ev x hx
 generalize ev c.gl s x = ax at hx' hK
 unfold aSlice at hK
 cases he : ((look c.T t).bind fun i => i.sl).bind (look c.T) with
 | none =>
  rw [he] at hK
  cases lo with
  | some _ => exact hK.elim
  | none =>
   cases hi' with
   | some _ => exact hK.elim
   | none =>
    simp only [Option.map_none] at hK
    unfold aSliceArr at hK
    cases ha : (look c.T t).bind fun i => i.arr with
    | none => rw [ha] at hK; exact hK.elim
    | some p =>
     rw [ha] at hK
     obtain ⟨n,z⟩:=p
     obtain ⟨i,hl,hi⟩ : ∃ i,look c.T t = some i∧i.arr = some (n,z):=by
      cases hl : look c.T t with
      | none => simp [hl] at ha
      | some i => exact ⟨i,rfl,by simpa [hl] using ha⟩
     obtain ⟨ti,d,zz,_,hu,_,_,_,_,_,_,_,_,_,harr,_⟩:=hT.parts hl
     obtain ⟨et,rfl,hz⟩:=harr n z hi
     cases ax with
     | bp k oo =>
      match z,oo,hK with
      | 1,0,hK =>
       have hK:=inLim_out hK
       cases hb : s.hp k with
       | none => rw [hb] at hK; exact hK.elim
       | some blk =>
        cases blk with
        | box cs =>
         rw [hb] at hK
         simp only [lenL_eq] at hK
         cases hq : Nat.beq cs.length n with
         | false => rw [hq] at hK; exact hK.elim
         | true =>
          rw [hq] at hK
          have hq:=Nat.eq_of_beq_eq_true hq
          obtain ⟨m,f1,_,_,_,f2,_⟩:=h.box k cs hb
          unfold RepM at hx'
          obtain ⟨m',h4,h5⟩:=hx'
          rw [f1] at h4; cases h4
          have hs : ∃ te,P.info? et = some te:=by
           unfold Program.cellsOf at hz
           cases hq : P.info? et with
           | none => rw [hq] at hz; simp at hz
           | some te => exact ⟨te,rfl⟩
          obtain ⟨te,hte⟩:=hs
          refine wp_pure h hd (v:=.slice (some ⟨m.b,0,none⟩) n n) ?_ ?_ hK
          ·simp [execOp,ho,h5,Instr.sliceAt,run_underlying hu,Instr.sureAddr,Instr.sliceBounds,Go.sizeOf,typeInfo,hte,Result.andThen]
           intro h0; rfl
          ·unfold RepM
           exact ⟨m,f1,.inl ⟨by rw [Nat.zero_mul,Nat.sub_zero,<- f2.2,hq],by rw [<- f2.2,hq]; omega⟩⟩
        | _ => rw [hb] at hK; exact hK.elim
     | _ =>
      first
      | exact hK.elim
      | (split at hK <;> exact hK.elim)
 | some e =>
  rw [he] at hK
  obtain ⟨et,ti,z,hu,hi,hz,hsz,_,_,_⟩:=hT.elem he
  simp only at hK
  have bounds : ∀ (n : Nat) (K' : Nat -> Nat -> Prop),
    (match hi'.map (ev c.gl s) with | none => fun k : Nat -> Prop => k n | some (.int _ h) => fun k => 0 <= h∧h <= (n : Int)∧k h.toNat | _ => fun _ => False)
     (fun h => (match lo.map (ev c.gl s) with | none => fun k : Nat -> Prop => k 0 | some (.int _ l) => fun k => 0 <= l∧l <= (h : Int)∧k l.toNat | _ => fun _ => False) fun l => K' h l) ->
    ∃ h' l,((hi'.map a.eval = none∧h' = n) ∨ ∃ k i,hi'.map a.eval = some (.int k i)∧0 <= i∧i <= (n : Int)∧h' = i.toNat) ∧
     ((lo.map a.eval = none∧l = 0) ∨ ∃ k i,lo.map a.eval = some (.int k i)∧0 <= i∧i <= (h' : Int)∧l = i.toNat)∧K' h' l:=by
   intro n K' hb
   have lob : ∀ h' : Nat,(match lo.map (ev c.gl s) with | none => fun k : Nat -> Prop => k 0 | some (.int _ l) => fun k => 0 <= l∧l <= (h' : Int)∧k l.toNat | _ => fun _ => False) (fun l => K' h' l) ->
     ∃ l,((lo.map a.eval = none∧l = 0) ∨ ∃ k i,lo.map a.eval = some (.int k i)∧0 <= i∧i <= (h' : Int)∧l = i.toNat)∧K' h' l:=by
    intro h' hb
    cases lo with
    | none => exact ⟨0,.inl ⟨rfl,rfl⟩,hb⟩
    | some y =>
     have hy:=h.ev y (hlo y rfl)
     simp only [Option.map_some] at hb ⊢
     generalize ev c.gl s y = ay at hy hb
     cases ay with
     | int k i => unfold RepM at hy; exact ⟨i.toNat,.inr ⟨k,i,by rw [hy],hb.1,hb.2.1,rfl⟩,hb.2.2⟩
     | _ => exact hb.elim
   cases hi' with
   | none =>
    obtain ⟨l,h1,h2⟩:=lob n hb
    exact ⟨n,l,.inl ⟨rfl,rfl⟩,h1,h2⟩
   | some y =>
    have hy:=h.ev y (hhi y rfl)
    simp only [Option.map_some] at hb ⊢
    generalize ev c.gl s y = ay at hy hb
    cases ay with
    | int k i =>
     unfold RepM at hy
     obtain ⟨l,h1,h2⟩:=lob i.toNat hb.2.2
     exact ⟨i.toNat,l,.inr ⟨k,i,by rw [hy],hb.1,hb.2.1,rfl⟩,h1,h2⟩
    | _ => exact hb.elim
  have le_of : ∀ {n h' l : Nat},((hi'.map a.eval = none∧h' = n) ∨ ∃ k i,hi'.map a.eval = some (.int k i)∧0 <= i∧i <= (n : Int)∧h' = i.toNat) ->
     ((lo.map a.eval = none∧l = 0) ∨ ∃ k i,lo.map a.eval = some (.int k i)∧0 <= i∧i <= (h' : Int)∧l = i.toNat) -> h' <= n∧l <= h':=by
   intro n h' l h1 h2
   refine ⟨?_,?_⟩
   ·rcases h1 with ⟨_,rfl⟩ | ⟨_,i,_,_,_,rfl⟩ <;> omega
   ·rcases h2 with ⟨_,rfl⟩ | ⟨_,i,_,_,_,rfl⟩ <;> omega
  have run : ∀ {p : Option Addr} {n cp h' l : Nat},a.eval x = .slice p n cp -> n <= cp ->
    ((hi'.map a.eval = none∧h' = n) ∨ ∃ k i,hi'.map a.eval = some (.int k i)∧0 <= i∧i <= (n : Int)∧h' = i.toNat) ->
    ((lo.map a.eval = none∧l = 0) ∨ ∃ k i,lo.map a.eval = some (.int k i)∧0 <= i∧i <= (h' : Int)∧l = i.toNat) ->
    (execOp a.eval o).run P w = .ok (.value (.slice (if cp = l then p else p.map (·.add (l * ti.size))) (h' - l) (cp - l))) w:=by
   intro p n cp h' l hv hn h1 h2
   have:=run_slice (P:=P) (w:=w) hu hi (p:=p) h1 h2 hn
   simp only [execOp,ho,hv,Option.map_none,this,Sem.run_bind,Result.andThen,Sem.run_pure]
  cases ax with
  | sl rows =>
   simp only [lenOf] at hK
   obtain ⟨h',l,h1,h2,hok,hK⟩:=bounds rows.length _ hK
   have hle:=le_of h1 h2
   unfold RepM RepD at hx'
   obtain ⟨p,cp,g1,g2,g3,g4⟩:=hx'
   refine wp_pure h hd (run g1 g2 h1 h2) ?_ hK
   have hlen : ((rows.take h').drop l).length = h' - l:=by simp; omega
   unfold RepM RepD
   rw [hlen]
   refine ⟨_,_,rfl,by omega,by omega,?_⟩
   by_cases e0 : (rows.take h').drop l = []
   ·exact .inl e0
   ·right
    have hpos : h' - l ≠ 0:=fun e => e0 (List.eq_nil_of_length_eq_zero (hlen.trans e))
    rcases g4 with g4 | ⟨b,off,sz,g4,g5,g6⟩
    ·subst g4; simp at hle; omega
    ·have hsz' : ti.size = sz:=by
      have hne : rows ≠ []:=fun e => by subst e; simp at hle; omega
      obtain ⟨row,hr⟩:=List.exists_mem_of_ne_nil rows hne
      rw [<- hsz,<- hok row hr,RepR.rowlen g6 row hr]
     refine ⟨b,off + l * sz,sz,?_,g5,?_⟩
     ·rw [if_neg (by omega),g4]; simp [Addr.add_lit,hsz']
     ·rw [List.drop_take]; exact RepR.sub rows off l (h' - l) g6
  | nil =>
   simp only [lenOf] at hK
   obtain ⟨h',l,h1,h2,hK⟩:=bounds 0 _ hK
   have hle:=le_of h1 h2
   unfold RepM at hx'
   refine wp_pure h hd (run hx' (Nat.le_refl _) h1 h2) ?_ hK
   have : l = 0:=by omega
   have : h' = 0:=by omega
   subst_vars
   unfold RepM; rfl
  | ms k off n =>
   simp only [lenOf] at hK
   obtain ⟨h',l,h1,h2,hK2⟩:=bounds n _ hK
   clear hK
   have hle:=le_of h1 h2
   have hK2:=inLim_out hK2
   cases hb : s.hp k with
   | none => rw [hb] at hK2; exact hK2.elim
   | some blk =>
    cases blk with
    | res => first | exact hK.elim | (rw [hb] at hK; exact hK.elim) | exact h.elim | (rw [hb] at h; exact h.elim) | (rw [hb] at hK2; exact hK2.elim) | (rw [hb] at hK; simp only at hK; exact hK.elim) | exact Sel.no | exact Gives.none | exact Give2.none | exact toDB_ok hp (.ms k off len) | (have:=Sel.toD (hp:=hp) (.ms k off len); exact this) | exact .inl rfl | (cases hK; done) | (cases h; done)
    | mp _ => first | exact hK.elim | (rw [hb] at hK; exact hK.elim) | exact h.elim | (rw [hb] at h; exact h.elim) | (rw [hb] at hK2; exact hK2.elim) | (rw [hb] at hK; simp only at hK; exact hK.elim) | exact Sel.no | exact Gives.none | exact Give2.none | exact toDB_ok hp (.ms k off len) | (have:=Sel.toD (hp:=hp) (.ms k off len); exact this) | exact .inl rfl | (cases hK; done) | (cases h; done)
    | box _ => rw [hb] at hK2; exact hK2.elim
    | own et' cs =>
     rw [hb] at hK2
     simp only at hK2
     cases hq : Nat.beq 1 e.sz with
     | false => rw [hq] at hK2; exact hK2.elim
     | true =>
      rw [hq] at hK2
      have hq:=Nat.eq_of_beq_eq_true hq
      obtain ⟨m,f1,f2,_,_,_,f6,_⟩:=h.own k et' cs hb
      have hms : ti.size = m.sz:=by rw [<- hsz,<- hq,<- f2.2]
      unfold RepM at hx'
      obtain ⟨m',g1,g2⟩:=hx'
      rw [f1] at g1; cases g1
      rcases g2 with ⟨g2,g3⟩ | ⟨rfl,g3,p,cp,g4,g5⟩
      ·refine wp_pure h hd (run g2 (by omega) h1 h2) ?_ hK2
       unfold RepM
       refine ⟨m,f1,?_⟩
       by_cases e : m.cap - off = l
       ·by_cases e2 : l = 0
        ·left
         subst e2
         rw [if_pos e]
         exact ⟨by simp,by omega⟩
        ·right
         exact ⟨by omega,by omega,_,_,by rw [show h' - l = 0 by omega],by omega⟩
       ·left
        rw [if_neg e]
        refine ⟨?_,by omega⟩
        simp only [Option.map_some,Addr.add_lit,hms]
        rw [Nat.add_mul,Nat.sub_sub]
      ·refine wp_pure h hd (run g4 (Nat.zero_le _) h1 h2) ?_ hK2
       unfold RepM
       have : l = 0:=by omega
       have : h' = 0:=by omega
       subst_vars
       exact ⟨m,f1,.inr ⟨rfl,by omega,_,_,rfl,by omega⟩⟩
    | arr sz rows lv =>
     rw [hb] at hK2
     simp only at hK2
     cases hq : Nat.beq sz.2 e.sz with
     | false => rw [hq] at hK2; exact hK2.elim
     | true =>
      rw [hq] at hK2
      have hq:=Nat.eq_of_beq_eq_true hq
      obtain ⟨m,f1,f2,_,_,_,_,f6,_⟩:=h.arr k sz rows lv hb
      have hms : ti.size = m.sz:=by rw [<- hsz,<- hq,<- f2]
      unfold RepM at hx'
      obtain ⟨m',g1,g2⟩:=hx'
      rw [f1] at g1; cases g1
      rcases g2 with ⟨g2,g3⟩ | ⟨rfl,g3,p,cp,g4,g5⟩
      ·refine wp_pure h hd (run g2 (by omega) h1 h2) ?_ hK2
       unfold RepM
       refine ⟨m,f1,?_⟩
       by_cases e : m.cap - off = l
       ·by_cases e2 : l = 0
        ·left
         subst e2
         rw [if_pos e]
         exact ⟨by simp,by omega⟩
        ·right
         exact ⟨by omega,by omega,_,_,by rw [show h' - l = 0 by omega],by omega⟩
       ·left
        rw [if_neg e]
        refine ⟨?_,by omega⟩
        simp only [Option.map_some,Addr.add_lit,hms]
        rw [Nat.add_mul,Nat.sub_sub]
      ·refine wp_pure h hd (run g4 (Nat.zero_le _) h1 h2) ?_ hK2
       unfold RepM
       have : l = 0:=by omega
       have : h' = 0:=by omega
       subst_vars
       exact ⟨m,f1,.inr ⟨rfl,by omega,_,_,rfl,by omega⟩⟩
  | _ => exact hK.elim
theorem RepDL_of : ∀ (l : List AV) (vs : List Value),l.length = vs.length -> (∀ (j : Nat) (x : AV) (v : Value),l[j]? = some x -> vs[j]? = some v -> RepD w F x v) -> RepDL w F l vs
 | [],vs,h,_ => by
   unfold RepDL
   exact List.eq_nil_of_length_eq_zero (by simpa using h.symm)
 | x :: l,[],h,_ => by simp at h
 | x :: l,v :: vs,h,hp => by
   unfold RepDL
   exact ⟨v,vs,rfl,hp 0 x v rfl rfl,RepDL_of l vs (by simpa using h) fun j y u hy hu => hp (j + 1) y u (by simpa using hy) (by simpa using hu)⟩
theorem RepDL.app {l m : List AV} {vs us : List Value} (h : RepDL w F l vs) (g : RepDL w F m us) : RepDL w F (l ++ m) (vs ++ us):=by
 refine RepDL_of _ _ (by simp [RepDL.len _ _ h,RepDL.len _ _ g]) fun j x v hx hv => ?_
 have hl:=RepDL.len _ _ h
 by_cases hj : j < l.length
 ·rw [List.getElem?_append_left hj] at hx
  rw [List.getElem?_append_left (by omega)] at hv
  obtain ⟨u,h1,h2⟩:=RepDL.get _ _ _ _ h hx
  rw [hv] at h1; cases h1; exact h2
 ·rw [List.getElem?_append_right (by omega)] at hx
  rw [List.getElem?_append_right (by omega),hl] at hv
  obtain ⟨u,h1,h2⟩:=RepDL.get _ _ _ _ g hx
  rw [hv] at h1; cases h1; exact h2
theorem RepDL.take {l : List AV} {vs : List Value} (n : Nat) (h : RepDL w F l vs) : RepDL w F (l.take n) (vs.take n):=by
 refine RepDL_of _ _ (by simp [RepDL.len _ _ h]) fun j x v hx hv => ?_
 rw [List.getElem?_take] at hx hv
 split at hx
 ·rename_i hj
  rw [if_pos hj] at hv
  obtain ⟨u,h1,h2⟩:=RepDL.get _ _ _ _ h hx
  rw [hv] at h1; cases h1; exact h2
 ·cases hx
theorem RepDL.drop {l : List AV} {vs : List Value} (n : Nat) (h : RepDL w F l vs) : RepDL w F (l.drop n) (vs.drop n):=by
 refine RepDL_of _ _ (by simp [RepDL.len _ _ h]) fun j x v hx hv => ?_
 rw [List.getElem?_drop] at hx hv
 obtain ⟨u,h1,h2⟩:=RepDL.get _ _ _ _ h hx
 rw [hv] at h1; cases h1; exact h2
theorem RepR_flat {b sz : Nat} : ∀ (rows : List (List AV)) (vs : List Value) (o : Nat),RowsOk sz rows -> RepDL w F rows.flatten vs -> (∀ x ∈ rows.flatten,one x = true) -> (∀ j v,vs[j]? = some v -> w.cell? ⟨b,o + j,none⟩ = some v) -> RepR w F b sz rows o
 | [],_,_,_,_,_,_ => by unfold RepR; trivial
 | r :: rs,vs,o,hok,h,h1,hc => by
   have hr:=hok r (by simp)
   rw [List.flatten_cons] at h h1
   have hl:=RepDL.len _ _ h
   rw [List.length_append] at hl
   unfold RepR
   refine ⟨hr,RepC_of r o fun j x hx => ?_,RepR_flat rs (vs.drop sz) (o + sz) (fun q hq => hok q (by simp [hq])) ?_ (fun x hx => h1 x (List.mem_append_right _ hx)) fun j v hv => ?_⟩
   ·have hj : j < r.length:=by
     rcases Nat.lt_or_ge j r.length with h | h
     ·exact h
     ·rw [List.getElem?_eq_none h] at hx; cases hx
    obtain ⟨v,e1,e2⟩:=RepDL.get _ _ j x h (by rw [List.getElem?_append_left hj]; exact hx)
    exact ⟨h1 x (List.mem_append_left _ (List.mem_of_getElem? hx)),v,hc j v e1,e2⟩
   ·have:=RepDL.drop r.length h
    rw [List.drop_left] at this
    rw [<- hr]; exact this
   ·rw [List.getElem?_drop] at hv
    have:=hc _ v hv
    rwa [show o + sz + j = o + (sz + j) by omega]
theorem flat_len {sz : Nat} : ∀ (rows : List (List AV)),RowsOk sz rows -> rows.flatten.length = rows.length * sz
 | [],_ => by simp
 | r :: rs,h => by
   rw [List.flatten_cons,List.length_append,flat_len rs (fun q hq => h q (by simp [hq])),h r (by simp),List.length_cons,Nat.add_mul]; omega
theorem toD_one {hp : Nat -> Option Blk} {av : AV} {K : AV -> Prop} (h : toD hp av K) : one av = true:=by
 cases av <;> first | rfl | (simp only [toD] at h)
theorem toDs_ones {hp : Nat -> Option Blk} : ∀ (l : List AV) {K : List AV -> Prop},toDs hp l K -> ones l = true
 | [],_,_ => rfl
 | x :: l,K,h => by
   unfold toDs at h
   have h1:=toD_one h
   obtain ⟨d,h⟩:=toD_some h
   simp only [ones,h1,toDs_ones l h]; rfl
theorem keys_ofV : ∀ (v : Value),keys (ofV v) = []
 | .int _ _ => by unfold ofV; rfl
 | .bool _ => by unfold ofV; rfl
 | .string _ => by unfold ofV; rfl
 | .slice none 0 0 => by unfold ofV; rfl
 | .agg ⟨cs⟩ => by unfold ofV; rfl
 | .tuple ⟨cs⟩ => by unfold ofV; rfl
 | .slice none 0 (n + 1) => by unfold ofV; rfl
 | .slice none (n + 1) _ => by unfold ofV; rfl
 | .slice (some _) _ _ => by unfold ofV; rfl
 | .float _ _ => by unfold ofV; rfl
 | .complex _ _ _ => by unfold ofV; rfl
 | .pointer none => by unfold ofV; rfl
 | .pointer (some _) => by unfold ofV; rfl
 | .map _ => by unfold ofV; rfl
 | .chan _ => by unfold ofV; rfl
 | .func _ _ _ => by unfold ofV; rfl
 | .nilFunc => by unfold ofV; rfl
 | .iface _ _ => by unfold ofV; rfl
 | .nilIface => by unfold ofV; rfl
theorem keysL_ofVs : ∀ (vs : List Value),keysL (ofVs vs) = []
 | [] => by unfold ofVs; rfl
 | v :: vs => by unfold ofVs keysL; rw [keys_ofV v,keysL_ofVs vs]; rfl
theorem keysL_cells_ofV (v : Value) : keysL (cells (ofV v)) = []:=by
 have h:=keys_ofV v
 cases v with
 | agg cs =>
  obtain ⟨cs⟩:=cs
  unfold ofV
  exact keysL_ofVs cs
 | tuple cs => obtain ⟨cs⟩:=cs; unfold ofV; rfl
 | slice p n cp =>
  cases p with
  | none => cases n <;> cases cp <;> (unfold ofV; rfl)
  | some _ => unfold ofV; rfl
 | pointer p => cases p <;> (unfold ofV; rfl)
 | _ => unfold ofV; rfl
theorem zero_row {hp : Nat -> Option Blk} {nx : Nat} (h : HR c F M hp nx w) {z : Value} {K : List AV -> Prop} (hK : toDs hp (cells (ofV z)) K) :
  ∃ row,RepDL w F row z.cells.toList∧(∀ d ∈ row,one d = true)∧(∀ u ∈ z.cells.toList,u.oneCell' = true)∧K row:=by
 have hc:=cells_rep (w:=w) (F:=F) (M:=M) (toDs_ones _ hK) (evOfV z)
 obtain ⟨ds,h1,h2,h3⟩:=toDs_sound h _ _ hc.1 hK
 rw [keysL_cells_ofV] at h1
 refine ⟨ds,RepDL.mono (fun b hb => ?_) (fun _ _ => rfl) _ _ h1,h2,hc.2,h3⟩
 rcases hb with hb | ⟨k,_,_,_,_,hk,_⟩
 ·exact hb
 ·cases hk
theorem made_get (z : Array Value) (sz n j : Nat) (hz : z.size = sz) (hs : 0 < sz) (hj : j < n * sz) : (madeCells z (n * sz)).toList[j]? = z.toList[j % sz]?:=by
 have h1 : j % sz < z.size:=by rw [hz]; exact Nat.mod_lt _ hs
 simp [madeCells,hj,hz,getElem!_pos z (j % sz) h1]
theorem repl_get {α : Type} (row : List α) (sz : Nat) (hs : row.length = sz) : ∀ (n j : Nat),j < n * sz -> (List.replicate n row).flatten[j]? = row[j % sz]?
 | 0,j,h => by simp at h
 | n + 1,j,h => by
   rw [List.replicate_succ,List.flatten_cons]
   by_cases hj : j < sz
   ·rw [List.getElem?_append_left (by omega),Nat.mod_eq_of_lt hj]
   ·rw [List.getElem?_append_right (by omega),hs,repl_get row sz hs n (j - sz) (by rw [Nat.add_mul] at h; omega),<- Nat.mod_eq_sub_mod (by omega)]
theorem repl_rep {row : List AV} {z : Array Value} {sz : Nat} (h : RepDL w F row z.toList) (hl : row.length = sz) (hs : 0 < sz) (n : Nat) : RepDL w F (List.replicate n row).flatten (madeCells z (n * sz)).toList:=by
 have hz : z.size = sz:=by have:=RepDL.len _ _ h; simp at this; omega
 have hfl : (List.replicate n row).flatten.length = n * sz:=by
  have:=flat_len (sz:=sz) (List.replicate n row) (fun q hq => by rw [List.eq_of_mem_replicate hq]; exact hl)
  simpa using this
 refine RepDL_of _ _ (by rw [hfl]; simp [size_madeCells]) fun j x v hx hv => ?_
 have hj : j < n * sz:=by
  rcases Nat.lt_or_ge j (n * sz) with h | h
  ·exact h
  ·rw [List.getElem?_eq_none (by omega)] at hx; cases hx
 rw [repl_get row sz hl n j hj] at hx
 rw [made_get z sz n j hz hs hj] at hv
 obtain ⟨u,h1,h2⟩:=RepDL.get _ _ _ _ h hx
 rw [hv] at h1; cases h1; exact h2
theorem HR.newArr {hp : Nat -> Option Blk} {nx : Nat} (h : HR c F M hp nx w) {rows : List (List AV)} {vs : List Value} {sz cap et : Nat} (hv : RepDL w F rows.flatten (vs.take (rows.length * sz))) (h1 : ∀ x ∈ rows.flatten,one x = true)
  (hok : RowsOk sz rows) (hs : 0 < sz) (hc : rows.length <= cap) (hm : cap <= maxLen) (hl : vs.length = cap * sz) :
  ∃ M',HR c F M' (upd nx (some (.arr (et,sz) rows true)) hp) (nx + 1) (w.alloc (.cells ⟨vs⟩ et))∧Tr F M w F M' (w.alloc (.cells ⟨vs⟩ et)) ∧
   M' nx = some ⟨w.heap.size,sz,cap,et⟩:=by
 have key:=h.grow none (m:=⟨w.heap.size,sz,cap,et⟩) (blk:=.arr (et,sz) rows true) (fun b hb _ => alloc_heap _ b hb) (by simp) (fun k hk => by cases hk) (.inl (Nat.le_refl _))
  (h.bel.alloc h.bel.size (.cells ⟨vs⟩ et)) (alloc_own hl) fun t => ⟨rfl,rfl,⟨hc,hm⟩,hs,RepR_flat rows (vs.take (rows.length * sz)) 0 hok (RepDL.mono t.foot t.cell _ _ hv) h1 fun j v hj => ?_⟩
 ·exact ⟨_,key.1,key.2,by simp⟩
 ·rw [List.getElem?_take] at hj
  split at hj
  ·exact alloc_cell vs et j v hj
  ·cases hj
theorem HR.newOwn {hp : Nat -> Option Blk} {nx : Nat} (h : HR c F M hp nx w) {cs : List AV} {vs : List Value} {cap et : Nat} (hv : RepML w F M cs (vs.take cs.length)) (h1 : ones cs = true)
  (hc : cs.length <= cap) (hm : cap <= maxLen) (hl : vs.length = cap) :
  ∃ M',HR c F M' (upd nx (some (.own et cs)) hp) (nx + 1) (w.alloc (.cells ⟨vs⟩ et))∧Tr F M w F M' (w.alloc (.cells ⟨vs⟩ et)) ∧
   M' nx = some ⟨w.heap.size,1,cap,et⟩:=by
 have key:=h.grow none (m:=⟨w.heap.size,1,cap,et⟩) (blk:=.own et cs) (fun b hb _ => alloc_heap _ b hb) (by simp) (fun k hk => by cases hk) (.inl (Nat.le_refl _))
  (h.bel.alloc h.bel.size (.cells ⟨vs⟩ et)) (alloc_own (by omega)) fun t => ⟨⟨rfl,rfl⟩,⟨hc,hm⟩,RepMC_new cs (vs.take cs.length) 0 (hv.tr t) h1 fun j v hj => ?_⟩
 ·exact ⟨_,key.1,key.2,by simp⟩
 ·rw [List.getElem?_take] at hj
  split at hj
  ·exact alloc_cell vs et j v hj
  ·cases hj
theorem ofV_nil {z : Value} (h : ofV z = .nil) : z = .slice none 0 0:=by
 cases z with
 | slice p n cp =>
  cases p with
  | none =>
   cases n with
   | zero =>
    cases cp with
    | zero => rfl
    | succ _ => unfold ofV at h; cases h
   | succ _ => unfold ofV at h; cases h
  | some _ => unfold ofV at h; cases h
 | agg cs => obtain ⟨cs⟩:=cs; unfold ofV at h; cases h
 | tuple cs => obtain ⟨cs⟩:=cs; unfold ofV at h; cases h
 | pointer p => cases p <;> (unfold ofV at h; cases h)
 | _ => unfold ofV at h; cases h
theorem RepML_nils : ∀ (n : Nat) (vs : List Value),vs.length = n -> (∀ v ∈ vs,v = .slice none 0 0) -> RepML w F M (List.replicate n .nil) vs
 | 0,vs,h,_ => by
   have:=List.eq_nil_of_length_eq_zero h
   subst this; unfold RepML; rfl
 | n + 1,[],h,_ => by simp at h
 | n + 1,v :: vs,h,hv => by
   rw [List.replicate_succ]
   unfold RepML
   exact ⟨v,vs,rfl,by unfold RepM; exact hv v (by simp),RepML_nils n vs (by simpa using h) fun u hu => hv u (by simp [hu])⟩
theorem ones_nils : ∀ n,ones (List.replicate n .nil) = true
 | 0 => rfl
 | n + 1 => by rw [List.replicate_succ]; simp only [ones,one,ones_nils n]; rfl
theorem made_nil {n : Nat} : ∀ v ∈ (madeCells #[.slice none 0 0] n).toList,v = .slice none 0 0:=by
 intro v hv
 obtain ⟨j,hj⟩:=List.getElem?_of_mem hv
 have hlt : j < n:=by
  rcases Nat.lt_or_ge j n with h | h
  ·exact h
  ·rw [List.getElem?_eq_none (by simp [size_madeCells]; omega)] at hj; cases hj
 have:=made_get #[.slice none 0 0] 1 n j rfl (by omega) (by omega)
 rw [Nat.mul_one] at this
 rw [this] at hj
 simp [Nat.mod_one] at hj
 exact hj.symm
theorem op_makeSlice {t : TypeId} {x y : Operand} (ho : o.op = .makeSlice t x y) (hT : TOk P c.T) (h : Rel c N F M s a w) (hd : ∀ t,o.dst = some t -> t < N) (hx : ∀ t,x = .tmp t -> t < N) (hy : ∀ t,y = .tmp t -> t < N)
  (hK : aMakeSlice c.T t (ev c.gl s x) (ev c.gl s y) s fun v s' => K (Ab.put o.dst v s')) : o.wpIn (Fw ro) 0 P a w (Post c N F M w K) Q:=by
 have hx':=h.ev x hx
 have hy':=h.ev y hy
 generalize ev c.gl s x = ax at hx' hK
 generalize ev c.gl s y = ay at hy' hK
 unfold aMakeSlice at hK
 cases hsl : (look c.T t).bind fun i => i.sl with
 | none => rw [hsl] at hK; exact hK.elim
 | some et =>
  rw [hsl] at hK
  simp only at hK
  cases he : look c.T et with
  | none => rw [he] at hK; exact hK.elim
  | some e =>
   rw [he] at hK
   obtain ⟨et',ti,z,hu,hi,hz,hsz,hby,hzv,hzs⟩:=hT.elem (t:=t) (e:=e) (by rw [hsl]; exact he)
   have : et' = et:=by
    cases hl : look c.T t with
    | none => simp [hl] at hsl
    | some i =>
     obtain ⟨_,d,_,_,hu',_,_,_,_,hsl',_⟩:=hT.parts hl
     rw [hl] at hsl
     rw [hsl' et hsl] at hu'
     rw [hu'] at hu; cases hu; rfl
   subst this
   cases ax with
   | int ik n =>
    cases ay with
    | int ik' cc =>
     unfold RepM at hx' hy'
     simp only at hK
     cases hesl : e.sl with
     | some est =>
      rw [hesl] at hK
      simp only at hK
      cases hev : e.zv with
      | nil =>
       rw [hev] at hK
       obtain ⟨h0,h1,h2,h3,hK⟩:=hK
       have hzn : z = .slice none 0 0:=ofV_nil (by rw [<- hzv,hev])
       have hs1 : e.sz = 1:=by rw [<- hzs,hzn]; rfl
       have hbytes : (ti.bytes : Int) * cc <= 281474976710656:=by rw [<- hby,Int.mul_comm]; omega
       have h63 : cc <= 9223372036854775807:=by
        have : ((maxLen : Nat) : Int) = 9223372036854775807:=by simp [maxLen]
        omega
       have hr:=run_make (P:=P) (w:=w) t et' ti z hu hi hz ik ik' n cc h0 h1 hbytes h63
       rw [<- hsz] at hr
       rw [hs1,Nat.mul_one] at hr
       have hzc : z.cells = #[.slice none 0 0]:=by rw [hzn]; rfl
       rw [hzc] at hr
       obtain ⟨M',g1,g2,g3⟩:=h.toHR.newOwn (cs:=List.replicate n.toNat .nil) (vs:=(madeCells #[.slice none 0 0] cc.toNat).toList) (cap:=cc.toNat) (et:=et')
        (RepML_nils _ _ (by simp [size_madeCells]; omega) (fun v hv => made_nil v (List.mem_of_mem_take hv))) (ones_nils _) (by simp; omega) (by omega) (by simp [size_madeCells])
       refine wp_next h hd g1 g2 (v:=.slice (some ⟨w.heap.size,0,none⟩) n.toNat cc.toNat) ?_ ?_ hK
       ·simp [execOp,ho,hx',hy',hr]
       ·unfold RepM
        exact ⟨_,g3,.inl ⟨by simp,by simp; omega⟩⟩
      | _ => rw [hev] at hK; exact hK.elim
     | none =>
     rw [hesl] at hK
     simp only [hzv] at hK
     obtain ⟨row,r1,r2,r3,hK⟩:=zero_row h.toHR hK
     rw [lenL_eq] at hK
     cases hb : and (Nat.ble 1 e.sz) (Nat.beq row.length e.sz) with
     | false => rw [hb] at hK; exact hK.elim
     | true =>
      rw [hb] at hK
      simp only [Bool.and_eq_true] at hb
      have hs1:=Nat.le_of_ble_eq_true hb.1
      have hs2:=Nat.eq_of_beq_eq_true hb.2
      obtain ⟨h0,h1,h2,h3,hK⟩:=hK
      have hbytes : (ti.bytes : Int) * cc <= 281474976710656:=by rw [<- hby,Int.mul_comm]; omega
      have h63 : cc <= 9223372036854775807:=by
       have : ((maxLen : Nat) : Int) = 9223372036854775807:=by simp [maxLen]
       omega
      have hr:=run_make (P:=P) w t et' ti z hu hi hz ik ik' n cc h0 h1 hbytes h63
      rw [<- hsz] at hr
      have hfl : (List.replicate n.toNat row).length = n.toNat:=by simp
      have hrep:=repl_rep (n:=cc.toNat) r1 hs2 (show 0 < e.sz by omega)
      have hsub : RepDL w F (List.replicate n.toNat row).flatten ((madeCells z.cells (cc.toNat * e.sz)).toList.take (n.toNat * e.sz)):=by
       have:=hrep.take (n.toNat * e.sz)
       have e1 : (List.replicate cc.toNat row).flatten.take (n.toNat * e.sz) = (List.replicate n.toNat row).flatten:=by
        rw [show cc.toNat = n.toNat + (cc.toNat - n.toNat) by omega,<- List.replicate_append_replicate,List.flatten_append]
        have hl2 : (List.replicate n.toNat row).flatten.length = n.toNat * e.sz:=by
         have:=flat_len (sz:=e.sz) (List.replicate n.toNat row) (fun q hq => by rw [List.eq_of_mem_replicate hq]; exact hs2)
         simpa using this
        rw [<- hl2,List.take_left]
       rwa [e1] at this
      obtain ⟨M',g1,g2,g3⟩:=h.toHR.newArr (rows:=List.replicate n.toNat row) (vs:=(madeCells z.cells (cc.toNat * e.sz)).toList) (sz:=e.sz) (cap:=cc.toNat) (et:=et')
       (by rw [hfl]; exact hsub) (fun x hx => by
        rw [List.mem_flatten] at hx
        obtain ⟨l,hl,hx⟩:=hx
        rw [List.eq_of_mem_replicate hl] at hx
        exact r2 x hx) (fun q hq => by rw [List.eq_of_mem_replicate hq]; exact hs2) (by omega) (by rw [hfl]; omega) (by omega) (by simp [size_madeCells])
      refine wp_next h hd g1 g2 (v:=.slice (some ⟨w.heap.size,0,none⟩) n.toNat cc.toNat) ?_ ?_ hK
      ·simp [execOp,ho,hx',hy',hr]
      ·unfold RepM
       exact ⟨_,g3,.inl ⟨by simp,by simp; omega⟩⟩
    | _ => exact hK.elim
   | _ => exact hK.elim
end
end Ab
end
section
namespace Ab
open Go Go.RowKit
section
variable {c : Ctx} {ro : Option Nat} {N : Nat} {F F' : Foot} {M M' : Nat -> Option MB} {s : St} {a : Act} {w w' : World} {P : Program} {o : Oper} {K : St -> Prop} {Q : Exit -> Act -> World -> Prop}
theorem RepC.vals {b : Nat} : ∀ (row : List AV) (off : Nat),RepC w F b row off -> ∃ vs : List Value,vs.length = row.length∧RepDL w F row vs∧(∀ x ∈ row,one x = true)∧∀ j u,vs[j]? = some u -> w.cell? ⟨b,off + j,none⟩ = some u
 | [],off,_ => ⟨[],rfl,by unfold RepDL; rfl,by simp,by simp⟩
 | x :: row,off,h => by
   unfold RepC at h
   obtain ⟨⟨h0,v,h1,h2⟩,h3⟩:=h
   obtain ⟨vs,g1,g2,g3,g4⟩:=RepC.vals row (off + 1) h3
   refine ⟨v :: vs,by simp [g1],by unfold RepDL; exact ⟨v,vs,rfl,h2,g2⟩,?_,fun j u hu => ?_⟩
   ·intro y hy
    rcases List.mem_cons.1 hy with rfl | hy
    ·exact h0
    ·exact g3 y hy
   ·cases j with
    | zero => simp at hu; subst hu; simpa using h1
    | succ j =>
     have:=g4 j u (by simpa using hu)
     rwa [show off + (j + 1) = off + 1 + j by omega]
theorem RepR.vals {b sz : Nat} : ∀ (rows : List (List AV)) (off : Nat),RepR w F b sz rows off -> ∃ vs : List Value,vs.length = rows.length * sz∧RepDL w F rows.flatten vs∧(∀ x ∈ rows.flatten,one x = true)∧∀ j u,vs[j]? = some u -> w.cell? ⟨b,off + j,none⟩ = some u
 | [],off,_ => ⟨[],by simp,by simp [RepDL],by simp,by simp⟩
 | r :: rs,off,h => by
   unfold RepR at h
   obtain ⟨h0,h1,h2⟩:=h
   obtain ⟨vs,g1,g2,g3,g4⟩:=RepC.vals r off h1
   obtain ⟨us,k1,k2,k3,k4⟩:=RepR.vals rs (off + sz) h2
   refine ⟨vs ++ us,by simp [g1,k1,h0,Nat.add_mul]; omega,by rw [List.flatten_cons]; exact g2.app k2,?_,fun j u hu => ?_⟩
   ·intro x hx
    rw [List.flatten_cons,List.mem_append] at hx
    rcases hx with hx | hx
    ·exact g3 x hx
    ·exact k3 x hx
   ·by_cases hj : j < vs.length
    ·rw [List.getElem?_append_left hj] at hu; exact g4 j u hu
    ·rw [List.getElem?_append_right (by omega)] at hu
     have:=k4 _ u hu
     rwa [show off + sz + (j - vs.length) = off + j by omega] at this
theorem cells_one {l : List AV} {vs : List Value} (h : RepDL w F l vs) (h1 : ∀ x ∈ l,one x = true) : ∀ u ∈ vs,u.oneCell' = true:=by
 intro u hu
 obtain ⟨j,hj⟩:=List.getElem?_of_mem hu
 have hl:=RepDL.len _ _ h
 have hlt : j < l.length:=by
  rcases Nat.lt_or_ge j vs.length with h' | h'
  ·omega
  ·rw [List.getElem?_eq_none h'] at hj; cases hj
 obtain ⟨v,e1,e2⟩:=RepDL.get _ _ j l[j] h (List.getElem?_eq_getElem hlt)
 rw [hj] at e1; cases e1
 exact (one_cell (M:=fun _ => none) (h1 _ (List.getElem_mem hlt)) (RepM.of_D _ _ e2)).1
theorem rowsOf_sound (h : Rel c N F M s a w) {y : AV} {v : Value} (hv : RepM w F M y v) {sz : Nat} {K' : List (List AV) -> Prop} (hK : rowsOf s.hp sz y K') :
  ∃ rows p cp news F1,v = .slice p rows.length cp∧RowsOk sz rows∧news.length = rows.length * sz∧RepDL w F1 rows.flatten news∧(∀ x ∈ rows.flatten,one x = true)∧(F1 = F) ∧
   (rows = [] ∨ ∃ b off,p = some ⟨b,off,none⟩∧∀ j u,news[j]? = some u -> w.cell? ⟨b,off + j,none⟩ = some u)∧K' rows:=by
 cases y with
 | nil =>
  unfold RepM at hv
  exact ⟨[],none,0,[],F,hv,(fun r hr => by cases hr),by simp,by simp [RepDL],by simp,rfl,.inl rfl,hK⟩
 | sl rows =>
  obtain ⟨hok,hK⟩:=hK
  unfold RepM RepD at hv
  obtain ⟨p,cp,h1,h2,h3,h4⟩:=hv
  rcases h4 with rfl | ⟨b,off,sz',h4,h5,h6⟩
  ·exact ⟨[],p,cp,[],F,h1,hok,by simp,by simp [RepDL],by simp,rfl,.inl rfl,hK⟩
  ·by_cases hr : rows = []
   ·subst hr
    exact ⟨[],p,cp,[],F,h1,hok,by simp,by simp [RepDL],by simp,rfl,.inl rfl,hK⟩
   ·obtain ⟨row,hrow⟩:=List.exists_mem_of_ne_nil rows hr
    have : sz' = sz:=by rw [<- hok row hrow,RepR.rowlen h6 row hrow]
    subst this
    obtain ⟨vs,g1,g2,g3,g4⟩:=RepR.vals rows off h6
    exact ⟨rows,p,cp,vs,F,h1,hok,g1,g2,g3,rfl,.inr ⟨b,off,h4,g4⟩,hK⟩
 | ms k off n =>
  simp only [rowsOf] at hK
  cases hb : s.hp k with
  | none => rw [hb] at hK; exact hK.elim
  | some blk =>
   cases blk with
   | res => first | exact hK.elim | (rw [hb] at hK; exact hK.elim) | exact h.elim | (rw [hb] at h; exact h.elim) | (rw [hb] at hK2; exact hK2.elim) | (rw [hb] at hK; simp only at hK; exact hK.elim) | exact Sel.no | exact Gives.none | exact Give2.none | exact toDB_ok hp (.ms k off len) | (have:=Sel.toD (hp:=hp) (.ms k off len); exact this) | exact .inl rfl | (cases hK; done) | (cases h; done)
   | mp _ => first | exact hK.elim | (rw [hb] at hK; exact hK.elim) | exact h.elim | (rw [hb] at h; exact h.elim) | (rw [hb] at hK2; exact hK2.elim) | (rw [hb] at hK; simp only at hK; exact hK.elim) | exact Sel.no | exact Gives.none | exact Give2.none | exact toDB_ok hp (.ms k off len) | (have:=Sel.toD (hp:=hp) (.ms k off len); exact this) | exact .inl rfl | (cases hK; done) | (cases h; done)
   | box _ => rw [hb] at hK; exact hK.elim
   | own _ _ => rw [hb] at hK; exact hK.elim
   | arr sz' rows lv =>
    rw [hb] at hK
    simp only at hK
    cases hq : Nat.beq sz sz'.2 with
    | false => rw [hq] at hK; exact hK.elim
    | true =>
     rw [hq] at hK
     simp only at hK
     have hq:=Nat.eq_of_beq_eq_true hq
     obtain ⟨hle,hK⟩:=hK
     obtain ⟨m,f1,f2,_,_,_,_,f6,_,f8⟩:=h.arr k sz' rows lv hb
     have hms : m.sz = sz:=by rw [hq,<- f2]
     have hr:=RepR.sub rows 0 off n f8
     rw [Nat.zero_add] at hr
     have hlen : ((rows.drop off).take n).length = n:=by simp; omega
     obtain ⟨vs,g1,g2,g3,g4⟩:=RepR.vals _ _ hr
     have hok : RowsOk sz ((rows.drop off).take n):=fun row hrow => by rw [<- hms]; exact RepR.rowlen hr row hrow
     unfold RepM at hv
     obtain ⟨m',h1,h2⟩:=hv
     rw [f1] at h1; cases h1
     rcases h2 with ⟨h2,h3⟩ | ⟨h2,h3,p,cp,h4,_⟩
     ·exact ⟨_,_,_,vs,F,by rw [hlen]; exact h2,hok,by rw [g1,hms],g2,g3,rfl,.inr ⟨m.b,off * m.sz,rfl,g4⟩,hK⟩
     ·exact ⟨_,p,cp,vs,F,by rw [hlen,h2]; exact h4,hok,by rw [g1,hms],g2,g3,rfl,.inl (List.eq_nil_of_length_eq_zero (by rw [hlen]; exact h2)),hK⟩
 | _ => exact hK.elim
theorem run_append_nothing' {t ty e : TypeId} {i : TypeInfo} (ht : P.underlying t = some (.slice e)) (hi : P.info? e = some i) (base p : Option Addr) (sLen sCap cp : Nat) (hle : sLen <= sCap) :
  (Builtin.append_ #[t,t] ty #[.slice base sLen sCap,.slice p 0 cp]).run P w = .ok (.slice base sLen sCap) w:=by
 cases base <;> cases p <;> simp [Builtin.append_,run_underlying ht,Go.sizeOf,typeInfo,hi,Builtin.lenOf,hle,Builtin.firstCells,loadCells,loadCellsFrom,storeCells]
theorem RepR.mono' {M M' : Nat -> Option MB} (t : Tr F M w F' M' w) {b sz : Nat} {rows : List (List AV)} {o : Nat} (h : RepR w F b sz rows o) : RepR w F' b sz rows o :=
 RepR.keep t.foot (fun _ _ => rfl) rfl rows o h
theorem ownsRow_flat {base e sz : Nat} {g n cap : Nat} {rows : List (List AV)} {xs : List Value} (h : w.ownsRow base e sz (.slice (some ⟨g,0,none⟩) n cap) n xs) (hok : RowsOk sz rows) (hv : RepDL w F rows.flatten xs) (h1 : ∀ x ∈ rows.flatten,one x = true) :
  RepR w F g sz rows 0:=by
 refine RepR_flat rows xs 0 hok hv h1 fun j v hj => ?_
 have:=h.cells (g:=g) rfl j v hj
 rwa [Addr.add_lit] at this
theorem RepMC.sub {b : Nat} : ∀ (l : List AV) (o n k : Nat),RepMC w F M b l o -> RepMC w F M b ((l.drop n).take k) (o + n)
 | [],o,n,k,_ => by simp [RepMC]
 | r :: rs,o,0,0,_ => by simp [RepMC]
 | r :: rs,o,0,k + 1,h => by
   unfold RepMC at h
   simp only [List.drop_zero,List.take_succ_cons,Nat.add_zero]
   unfold RepMC
   have:=RepMC.sub rs (o + 1) 0 k h.2
   simp only [List.drop_zero,Nat.add_zero] at this
   exact ⟨h.1,this⟩
 | r :: rs,o,n + 1,k,h => by
   unfold RepMC at h
   have:=RepMC.sub rs (o + 1) n k h.2
   rw [List.drop_succ_cons,show o + (n + 1) = o + 1 + n by omega]
   exact this
theorem RepMC.vals {b : Nat} : ∀ (row : List AV) (off : Nat),RepMC w F M b row off -> ∃ vs : List Value,vs.length = row.length∧RepML w F M row vs∧ones row = true∧∀ j u,vs[j]? = some u -> w.cell? ⟨b,off + j,none⟩ = some u
 | [],off,_ => ⟨[],rfl,by unfold RepML; rfl,rfl,by simp⟩
 | x :: row,off,h => by
   unfold RepMC at h
   obtain ⟨⟨h0,v,h1,h2⟩,h3⟩:=h
   obtain ⟨vs,g1,g2,g3,g4⟩:=RepMC.vals row (off + 1) h3
   refine ⟨v :: vs,by simp [g1],by unfold RepML; exact ⟨v,vs,rfl,h2,g2⟩,by simp only [ones,h0,g3]; rfl,fun j u hu => ?_⟩
   cases j with
   | zero => simp at hu; subst hu; simpa using h1
   | succ j =>
    have:=g4 j u (by simpa using hu)
    rwa [show off + (j + 1) = off + 1 + j by omega]
theorem ones_all : ∀ {l : List AV},(∀ x ∈ l,one x = true) -> ones l = true
 | [],_ => rfl
 | x :: l,h => by
   have h1:=ones_all (l:=l) fun y hy => h y (List.mem_cons_of_mem _ hy)
   have h2:=h x (by simp)
   simp only [ones,h1,h2]; rfl
theorem ones_app : ∀ {l m : List AV},ones l = true -> ones m = true -> ones (l ++ m) = true
 | [],_,_,h => h
 | x :: l,m,h,g => by
   simp only [ones,Bool.and_eq_true] at h
   simp only [List.cons_append,ones,h.1,ones_app h.2 g]; rfl
theorem RepML.app' : ∀ {l m : List AV} {vs us : List Value},RepML w F M l vs -> RepML w F M m us -> RepML w F M (l ++ m) (vs ++ us)
 | [],_,_,_,h,g => by unfold RepML at h; subst h; exact g
 | x :: l,m,vs,us,h,g => by
   unfold RepML at h
   obtain ⟨v,vs',rfl,h1,h2⟩:=h
   rw [List.cons_append,List.cons_append]
   unfold RepML
   exact ⟨v,vs' ++ us,rfl,h1,RepML.app' h2 g⟩
theorem cells_oneM : ∀ (l : List AV) (vs : List Value),RepML w F M l vs -> ones l = true -> ∀ u ∈ vs,u.oneCell' = true
 | [],vs,h,_ => by unfold RepML at h; subst h; simp
 | x :: l,vs,h,h1 => by
   unfold RepML at h
   obtain ⟨v,vs',rfl,h2,h3⟩:=h
   simp only [ones,Bool.and_eq_true] at h1
   intro u hu
   rcases List.mem_cons.1 hu with rfl | hu
   ·exact (one_cell h1.1 h2).1
   ·exact cells_oneM l vs' h3 h1.2 u hu
theorem cellsOf_sound (h : Rel c N F M s a w) {y : AV} {v : Value} (hv : RepM w F M y v) {K' : List AV -> Prop} (hK : cellsOf s.hp y K') :
  ∃ cs p cp news,v = .slice p cs.length cp∧news.length = cs.length∧RepML w F M cs news∧ones cs = true ∧
   (cs = [] ∨ ∃ b off,p = some ⟨b,off,none⟩∧∀ j u,news[j]? = some u -> w.cell? ⟨b,off + j,none⟩ = some u)∧K' cs:=by
 have viaRows : ∀ {K'' : List (List AV) -> Prop},rowsOf s.hp 1 y K'' -> (∀ rows,K'' rows -> K' rows.flatten) ->
   ∃ cs p cp news,v = .slice p cs.length cp∧news.length = cs.length∧RepML w F M cs news∧ones cs = true ∧
   (cs = [] ∨ ∃ b off,p = some ⟨b,off,none⟩∧∀ j u,news[j]? = some u -> w.cell? ⟨b,off + j,none⟩ = some u)∧K' cs:=by
  intro K'' hr hk
  obtain ⟨rows,p,cp,news,F1,g1,g2,g3,g4,g5,rfl,g6,g7⟩:=rowsOf_sound h hv hr
  have hfl:=flat_len rows g2
  rw [Nat.mul_one] at hfl g3
  refine ⟨rows.flatten,p,cp,news,by rw [hfl]; exact g1,by rw [hfl]; exact g3,RepML.of_D _ _ g4,ones_all g5,?_,hk rows g7⟩
  rcases g6 with g6 | g6
  ·subst g6; exact .inl rfl
  ·exact .inr g6
 cases y with
 | nil => exact viaRows (K'':=fun rows => K' rows.flatten) hK fun _ h => h
 | sl rows => exact viaRows (K'':=fun rows => K' rows.flatten) hK fun _ h => h
 | ms k off n =>
  simp only [cellsOf] at hK
  cases hb : s.hp k with
  | none => rw [hb] at hK; exact hK.elim
  | some blk =>
   rw [hb] at hK
   cases blk with
   | res => first | exact hK.elim | (rw [hb] at hK; exact hK.elim) | exact h.elim | (rw [hb] at h; exact h.elim) | (rw [hb] at hK2; exact hK2.elim) | (rw [hb] at hK; simp only at hK; exact hK.elim) | exact Sel.no | exact Gives.none | exact Give2.none | exact toDB_ok hp (.ms k off len) | (have:=Sel.toD (hp:=hp) (.ms k off len); exact this) | exact .inl rfl | (cases hK; done) | (cases h; done)
   | mp _ => first | exact hK.elim | (rw [hb] at hK; exact hK.elim) | exact h.elim | (rw [hb] at h; exact h.elim) | (rw [hb] at hK2; exact hK2.elim) | (rw [hb] at hK; simp only at hK; exact hK.elim) | exact Sel.no | exact Gives.none | exact Give2.none | exact toDB_ok hp (.ms k off len) | (have:=Sel.toD (hp:=hp) (.ms k off len); exact this) | exact .inl rfl | (cases hK; done) | (cases h; done)
   | box _ => exact hK.elim
   | arr sz rows lv =>
    simp only at hK
    cases hq : Nat.beq 1 sz.2 with
    | false => rw [hq] at hK; exact hK.elim
    | true =>
     rw [hq] at hK
     refine viaRows (K'':=fun rows => K' rows.flatten) ?_ fun _ h => h
     simp only [rowsOf,hb,hq]
     exact hK
   | own et cs =>
    simp only [forceL_eq] at hK
    obtain ⟨hl,hK⟩:=hK
    obtain ⟨m,f1,f2,_,_,_,f6,f7⟩:=h.own k et cs hb
    have hs:=RepMC.sub cs 0 off n f7
    rw [Nat.zero_add] at hs
    obtain ⟨vs,g1,g2,g3,g4⟩:=RepMC.vals _ _ hs
    have hlen : ((cs.drop off).take n).length = n:=by simp; omega
    unfold RepM at hv
    obtain ⟨m',e1,e2⟩:=hv
    rw [f1] at e1; cases e1
    rcases e2 with ⟨e2,e3⟩ | ⟨e2,e3,p,cp,e4,_⟩
    ·exact ⟨_,_,_,vs,by rw [hlen]; exact e2,g1,g2,g3,.inr ⟨m.b,off * m.sz,rfl,by rw [f2.2,Nat.mul_one]; exact g4⟩,hK⟩
    ·exact ⟨_,p,cp,vs,by rw [hlen,e2]; exact e4,g1,g2,g3,.inl (List.eq_nil_of_length_eq_zero (by rw [hlen]; exact e2)),hK⟩
 | _ => exact hK.elim
theorem op_appendO {x y : Operand} {args : Array Operand} {ts : Array TypeId} {t et : TypeId} {ti : TypeInfo} {z : Value} {by_ : Nat} (ha : args = #[x,y]) (hts : ts = #[t,t]) (ho : o.op = .call { callee:=.builtin .append,args:=args,argTypes:=ts })
  (h : Rel c N F M s a w) (hd : ∀ t,o.dst = some t -> t < N) {ax ay : AV} (hx' : RepM w F M ax (a.eval x)) (hy' : RepM w F M ay (a.eval y))
  (hu : P.underlying t = some (.slice et)) (hi : P.info? et = some ti) (hz : ti.zero = some z) (hsz : 1 = ti.size) (hby : by_ = ti.bytes) (hzs : z.cells.size = 1)
  (hK : aAppendO et by_ ax ay s fun v s' => K (Ab.put o.dst v s')) : o.wpIn (Fw ro) 0 P a w (Post c N F M w K) Q:=by
 have hrun : ∀ {v' : Value} {w' : World},(Builtin.append_ #[t,t] o.type #[a.eval x,a.eval y]).run P w = .ok v' w' -> (execOp a.eval o).run P w = .ok (.value v') w':=by
  intro v' w' hr
  simp [execOp,ho,ha,hts,resolve,invoke,builtin,hr,Result.andThen]
 have hm : ((maxLen : Nat) : Int) = 9223372036854775807:=by simp [maxLen]
 unfold aAppendO at hK
 cases ax with
 | nil =>
  simp only at hK
  unfold RepM at hx'
  have main : cellsOf s.hp ay (fun cs => cs ≠ []∧cs.length * by_ <= 140737488355328∧cs.length <= maxLen∧K (Ab.put o.dst (.ms s.nx 0 cs.length) (Ab.alloc (.own et cs) s))) -> o.wpIn (Fw ro) 0 P a w (Post c N F M w K) Q:=by
   intro hK
   obtain ⟨cs,p,cp,news,g1,g3,g4,g5,g6,hne,hb1,hb2,hK⟩:=cellsOf_sound h hy' hK
   obtain ⟨b,off,rfl,g7⟩:=g6.resolve_left hne
   have hn : 0 < cs.length:=List.length_pos_iff.2 hne
   have hrn:=run_append_nil (P:=P) (w:=w) t o.type et ti z hu hi hz ⟨b,off,none⟩ cs.length cp news (by rw [g3,<- hsz,Nat.mul_one]) (fun j u hj => by rw [Addr.add_lit]; exact g7 j u hj) hn (by omega) (by rw [<- hby]; omega)
   generalize hcap : grownCap w cs.length 0 et = cap at hrn
   have hge : cs.length <= cap:=by rw [<- hcap]; exact grownCap_ge w _ _ _
   have hle : cap <= maxLen:=by rw [<- hcap]; exact grownCap_le_maxLen w _ _ _ hb2
   have hzl:=size_zeroCells z.cells (cap - cs.length)
   generalize hz' : Builtin.zeroCells z.cells (cap - cs.length) = zs at hrn hzl
   have hdr : HR c F M s.hp s.nx w.drew:=(h.toHR.keep (w':=w.drew) (F':=F) (fun _ _ => rfl) (fun _ h => h) (fun _ h => .inl h) h.fl h.bel.drew).1
   have htd : Tr F M w F M w.drew:=(h.toHR.keep (w':=w.drew) (F':=F) (fun _ _ => rfl) (fun _ h => h) (fun _ h => .inl h) h.fl h.bel.drew).2
   obtain ⟨M',k1,k2,k3⟩:=hdr.newOwn (cs:=cs) (vs:=news ++ zs.toList) (cap:=cap) (et:=et)
    (by rw [<- g3,List.take_left]; exact g4.tr htd) g5 hge hle (by
     rw [List.length_append,g3]; simp only [Array.length_toList,hzl,hzs]; omega)
   have harr : (⟨news ++ zs.toList⟩ : Array Value) = news.toArray ++ zs:=by apply Array.ext'; simp
   rw [harr] at k1 k2
   refine wp_next h hd k1 (htd.trans k2) (hrun (by rw [hx',g1]; exact hrn)) ?_ hK
   unfold RepM
   exact ⟨_,k3,.inl ⟨by simp,by simp; omega⟩⟩
  cases ay with
  | nil =>
   unfold RepM at hy'
   refine wp_pure h hd (hrun (v':=.slice none 0 0) (w':=w) ?_) (by unfold RepM; rfl) hK
   rw [hx',hy']
   exact run_append_nothing' hu hi none none 0 0 0 (Nat.le_refl _)
  | _ => exact main hK
 | ms k off n =>
  cases off with
  | succ off => exact hK.elim
  | zero =>
   simp only at hK
   cases hb : s.hp k with
   | none => rw [hb] at hK; exact hK.elim
   | some blk =>
    cases blk with
    | res => first | exact hK.elim | (rw [hb] at hK; exact hK.elim) | exact h.elim | (rw [hb] at h; exact h.elim) | (rw [hb] at hK2; exact hK2.elim) | (rw [hb] at hK; simp only at hK; exact hK.elim) | exact Sel.no | exact Gives.none | exact Give2.none | exact toDB_ok hp (.ms k off len) | (have:=Sel.toD (hp:=hp) (.ms k off len); exact this) | exact .inl rfl | (cases hK; done) | (cases h; done)
    | mp _ => first | exact hK.elim | (rw [hb] at hK; exact hK.elim) | exact h.elim | (rw [hb] at h; exact h.elim) | (rw [hb] at hK2; exact hK2.elim) | (rw [hb] at hK; simp only at hK; exact hK.elim) | exact Sel.no | exact Gives.none | exact Give2.none | exact toDB_ok hp (.ms k off len) | (have:=Sel.toD (hp:=hp) (.ms k off len); exact this) | exact .inl rfl | (cases hK; done) | (cases h; done)
    | box _ => rw [hb] at hK; exact hK.elim
    | arr _ _ _ => rw [hb] at hK; exact hK.elim
    | own et' cs =>
     rw [hb] at hK
     simp only at hK
     cases hq : Nat.beq et' et with
     | false => rw [hq] at hK; exact hK.elim
     | true =>
      rw [hq] at hK
      have hq:=Nat.eq_of_beq_eq_true hq
      subst hq
      obtain ⟨hn,hK⟩:=hK
      simp only [forceL_eq,appL_eq] at hK
      obtain ⟨cs',p,cp,news,g1,g3,g4,g5,g6,hb1,hb2,hK⟩:=cellsOf_sound h hy' hK
      obtain ⟨m,f1,f2,f3,f4,f6,f7,f9⟩:=h.own k et' cs hb
      have hme : m.e = et':=f2.1
      have hms : m.sz = 1:=f2.2
      have hold : ∀ j,some k = some j -> s.hp j ≠ none∧∀ mk,M j = some mk -> ¬ F mk.b:=by
       intro j hj; cases hj
       exact ⟨by rw [hb]; simp,fun mk hmk => by rw [f1] at hmk; cases hmk; exact f4⟩
      unfold RepM at hx'
      obtain ⟨m',h1,h2⟩:=hx'
      rw [f1] at h1; cases h1
      rcases h2 with ⟨h2,h3⟩ | ⟨_,h3,_⟩
      case inr => omega
      obtain ⟨olds,o1,o2,o3,o4⟩:=RepMC.vals cs 0 f9
      have hones:=ones_app o3 g5
      have hnews1:=cells_oneM _ _ g4 g5
      have hev : a.eval x = .slice (some ⟨m.b,0,none⟩) n m.cap:=by rw [h2]; simp
      by_cases hr0 : cs' = []
      ·subst hr0
       obtain ⟨k1,k2⟩:=h.toHR.grow (w':=w) (some k) (m:=m) (blk:=.own et' (cs ++ [])) (fun _ _ _ => rfl) (Nat.le_refl _) hold (.inr ⟨k,m,rfl,f1,rfl⟩) h.bel f6
        (fun t => ⟨f2,by simpa using f7,by rw [List.append_nil]; exact RepMC.keep t rfl cs 0 f9⟩)
       refine wp_next h hd k1 k2 (hrun (v':=.slice (some ⟨m.b,0,none⟩) n m.cap) (w':=w) (by rw [hev,g1]; exact run_append_nothing' hu hi _ p n m.cap cp (by omega))) ?_ hK
       unfold RepM
       exact ⟨m,by simp,.inl ⟨by simp,by simp; omega⟩⟩
      ·obtain ⟨b,off,rfl,g7⟩:=g6.resolve_left hr0
       obtain ⟨cur,hg,hcs⟩:=f6
       rw [hme] at hg
       have hcs' : cur.size = m.cap * 1:=by rw [hcs,hms]
       by_cases hroom : n + cs'.length <= m.cap
       ·have hfit : n * 1 + news.length <= cur.size:=by omega
        have hrn:=run_append_room (P:=P) w t o.type et' ti hu hi m.b n m.cap cur hg ⟨b,off,none⟩ cs'.length cp news (by rw [g3,<- hsz,Nat.mul_one]) (fun j u hj => by rw [Addr.add_lit]; exact g7 j u hj) hnews1 hroom (by rw [<- hsz]; exact hfit)
        rw [<- hsz] at hrn
        have hl : n * 1 + news.length <= cur.toList.length:=by simpa using hfit
        have hown' : Own (w.setRow m.b (cur.toList.take (n * 1) ++ news ++ cur.toList.drop (n * 1 + news.length)).toArray) m:=by
         refine ⟨_,by rw [hme]; exact setRow_heap w m.b cur _ et' (0,0) hg,?_⟩
         have:=splice_len cur.toList news (n * 1) hl
         simpa [hcs] using this
        have hcell : ∀ j,(w.setRow m.b (cur.toList.take (n * 1) ++ news ++ cur.toList.drop (n * 1 + news.length)).toArray).cell? ⟨m.b,j,none⟩ = if j < n * 1 then w.cell? ⟨m.b,j,none⟩ else if j < n * 1 + news.length then news[j - n * 1]? else w.cell? ⟨m.b,j,none⟩:=by
         intro j
         rw [cell_of_row _ m.b j _ et' (0,0) (setRow_heap w m.b cur _ et' (0,0) hg),cell_of_row w m.b j cur et' (0,0) hg]
         have:=splice_get cur.toList news (n * 1) j hl
         simpa using this
        generalize hw' : w.setRow m.b (cur.toList.take (n * 1) ++ news ++ cur.toList.drop (n * 1 + news.length)).toArray = w' at hrn hown' hcell
        have hoth : ∀ b,b ≠ m.b -> w'.heap[b]? = w.heap[b]?:=fun b hb => by rw [<- hw']; exact setRow_other w m.b b _ hb
        have hsize : w'.heap.size = w.heap.size:=by rw [<- hw']; simp
        have hbel : Below c.w0.heap.size c.w0 w':=by
         refine h.bel.grown (row:=some m.b) ⟨?_,?_,?_,by omega,fun k' _ hk => hoth k' (fun e => hk (by rw [e]))⟩ h.bel.size (fun k' hk => by cases hk; exact f3) <;> (rw [<- hw']; rfl)
        obtain ⟨k1,k2⟩:=h.toHR.grow (w':=w') (some k) (m:=m) (blk:=.own et' (cs ++ cs')) (fun b' _ hb' => hoth b' (hb' k m rfl f1)) (by omega) hold (.inr ⟨k,m,rfl,f1,rfl⟩) hbel hown'
         (fun t => by
          refine ⟨f2,⟨by simp; omega,f7.2⟩,?_⟩
          refine RepMC_new (cs ++ cs') (olds ++ news) 0 ((o2.tr t).app' (g4.tr t)) hones fun j u hj => ?_
          have ho1 : olds.length = n * 1:=by rw [o1,hn,Nat.mul_one]
          rw [hcell]
          by_cases hj1 : j < olds.length
          ·rw [List.getElem?_append_left hj1] at hj
           rw [if_pos (by omega)]
           exact o4 j u hj
          ·rw [List.getElem?_append_right (by omega)] at hj
           have hj2 : j - olds.length < news.length:=by
                rcases Nat.lt_or_ge (j - olds.length) news.length with h | h
                ·exact h
                ·rw [List.getElem?_eq_none h] at hj; cases hj
           rw [if_neg (by omega),if_pos (by omega),<- hj]; congr 1; omega)
        refine wp_next h hd k1 k2 (hrun (v':=.slice (some ⟨m.b,0,none⟩) (n + cs'.length) m.cap) (w':=w') (by rw [hev,g1]; exact hrn)) ?_ hK
        unfold RepM
        exact ⟨m,by simp,.inl ⟨by simp,by simp; omega⟩⟩
       ·obtain ⟨v',w',hrn,r1,r2⟩:=run_append_arg_grows (P:=P) w t o.type et' ti z 1 by_ hu hi hz hsz.symm hby.symm hzs (by omega) ⟨m.b,0,none⟩ n m.cap olds (by rw [o1,hn,Nat.mul_one]) (fun j u hj => by rw [Addr.add_lit]; exact o4 j u hj)
         ⟨b,off,none⟩ cs'.length cp news (by rw [g3,Nat.mul_one]) (fun j u hj => by rw [Addr.add_lit]; exact g7 j u hj) (by omega) hb2 hb1
        have r1':=r1.2
        rcases r1' with ⟨_,h0⟩ | ⟨g,cap',cur',rfl,q1,q2,q3,q4,q5,_⟩
        ·omega
        ·have hbel : Below c.w0.heap.size c.w0 w':=h.bel.grown (row:=none) r2 h.bel.size (fun k' hk => by cases hk)
         obtain ⟨k1,k2⟩:=h.toHR.grow (w':=w') (some k) (m:=⟨g,1,cap',et'⟩) (blk:=.own et' (cs ++ cs')) (fun b' hb' _ => r2.block b' hb' (by simp)) r2.size hold (.inl q1) hbel ⟨cur',q2,q5⟩
          (fun t => ⟨⟨rfl,rfl⟩,⟨by simp; omega,q4⟩,RepMC_new (cs ++ cs') (olds ++ news) 0 ((o2.tr t).app' (g4.tr t)) hones fun j u hj => by
               have:=r1.cells (g:=g) rfl j u hj
               rwa [Addr.add_lit] at this⟩)
         refine wp_next h hd k1 k2 (hrun (by rw [hev,g1]; exact hrn)) ?_ hK
         unfold RepM
         exact ⟨⟨g,1,cap',et'⟩,by simp,.inl ⟨by simp,by simp; omega⟩⟩
 | _ => exact hK.elim
theorem op_append {x y : Operand} {args : Array Operand} {ts : Array TypeId} {t : TypeId} (ha : args = #[x,y]) (hts : ts = #[t,t]) (ho : o.op = .call { callee:=.builtin .append,args:=args,argTypes:=ts })
  (hT : TOk P c.T) (h : Rel c N F M s a w) (hd : ∀ t,o.dst = some t -> t < N) (hx : ∀ t,x = .tmp t -> t < N) (hy : ∀ t,y = .tmp t -> t < N)
  (hK : aAppend c.T t (ev c.gl s x) (ev c.gl s y) s fun v s' => K (Ab.put o.dst v s')) : o.wpIn (Fw ro) 0 P a w (Post c N F M w K) Q:=by
 have hx':=h.ev x hx
 have hy':=h.ev y hy
 generalize ev c.gl s x = ax at hx' hK
 generalize ev c.gl s y = ay at hy' hK
 unfold aAppend at hK
 cases hsl : (look c.T t).bind fun i => i.sl with
 | none => rw [hsl] at hK; exact hK.elim
 | some et =>
  rw [hsl] at hK
  simp only at hK
  cases he : look c.T et with
  | none => rw [he] at hK; exact hK.elim
  | some e =>
   rw [he] at hK
   simp only at hK
   obtain ⟨et',ti,z,hu,hi,hz,hsz,hby,hzv,hzs⟩:=hT.elem (t:=t) (e:=e) (by rw [hsl]; exact he)
   have : et' = et:=by
    cases hl : look c.T t with
    | none => simp [hl] at hsl
    | some i =>
     obtain ⟨_,d,_,_,hu',_,_,_,_,hsl',_⟩:=hT.parts hl
     rw [hl] at hsl
     rw [hsl' et hsl] at hu'
     rw [hu'] at hu; cases hu; rfl
   subst this
   cases h1s : Nat.ble 1 e.sz with
   | false => rw [h1s] at hK; exact hK.elim
   | true =>
    rw [h1s] at hK
    have h1s:=Nat.le_of_ble_eq_true h1s
    simp only at hK
    cases hesl : e.sl with
    | some est =>
     rw [hesl] at hK
     simp only at hK
     cases he1 : Nat.beq e.sz 1 with
     | false => rw [he1] at hK; exact hK.elim
     | true =>
      rw [he1] at hK
      have he1:=Nat.eq_of_beq_eq_true he1
      exact op_appendO ha hts ho h hd hx' hy' hu hi hz (by rw [<- he1,hsz]) hby (by rw [hzs,he1]) hK
    | none =>
    rw [hesl] at hK
    simp only at hK
    have hrun : ∀ {v' : Value} {w' : World},(Builtin.append_ #[t,t] o.type #[a.eval x,a.eval y]).run P w = .ok v' w' -> (execOp a.eval o).run P w = .ok (.value v') w':=by
     intro v' w' hr
     simp [execOp,ho,ha,hts,resolve,invoke,builtin,hr,Result.andThen]
    cases ax with
    | nil =>
     unfold RepM at hx'
     cases ay with
     | nil =>
      unfold RepM at hy'
      refine wp_pure h hd (hrun (v':=.slice none 0 0) (w':=w) ?_) (by unfold RepM; rfl) hK
      rw [hx',hy']
      exact run_append_nothing' hu hi none none 0 0 0 (Nat.le_refl _)
     | sl rows =>
      obtain ⟨hb1,hb2,hok,hK⟩:=hK
      obtain ⟨rows',p,cp,news,F1,g1,g2,g3,g4,g5,rfl,g6,rfl⟩:=rowsOf_sound (K':=fun r => r = rows) h hy' ⟨hok,rfl⟩
      by_cases hr : rows' = []
      ·subst hr
       refine wp_pure h hd (hrun (v':=.slice none 0 0) (w':=w) ?_) ?_ hK
       ·rw [hx',g1]
        exact run_append_nothing' hu hi none p 0 0 cp (Nat.le_refl _)
       ·unfold RepM RepD
        exact ⟨none,0,by simp,by simp,by simp,.inl rfl⟩
      ·obtain ⟨b,off,rfl,g7⟩:=g6.resolve_left hr
       have hpos : 0 < rows'.length:=List.length_pos_iff.2 hr
       have hm : ((maxLen : Nat) : Int) = 9223372036854775807:=by simp [maxLen]
       have hrn:=run_append_nil (P:=P) (w:=w) t o.type et' ti z hu hi hz ⟨b,off,none⟩ rows'.length cp news (by rw [g3,hsz]) (fun j u hj => by rw [Addr.add_lit]; exact g7 j u hj) hpos (by omega) (by rw [<- hby]; omega)
       generalize hcap : grownCap w rows'.length 0 et' = cap at hrn
       have hge : rows'.length <= cap:=by rw [<- hcap]; exact grownCap_ge w _ _ _
       have hle : cap <= maxLen:=by rw [<- hcap]; exact grownCap_le_maxLen w _ _ _ hb2
       generalize hz' : Builtin.zeroCells z.cells (cap - rows'.length) = zs at hrn
       have hbel : Below c.w0.heap.size c.w0 (w.drew.alloc (.cells (news.toArray ++ zs) et')):=(h.bel.drew).alloc h.bel.size _
       obtain ⟨k1,k2⟩:=h.toHR.keep (w':=w.drew.alloc (.cells (news.toArray ++ zs) et')) (F':=fun b => F1 b ∨ b = w.heap.size) (fun b hb => heap_alloc_old w.drew _ b hb) (fun b hb => .inl hb)
        (fun b hb => by rcases hb with hb | hb; exact .inl hb; exact .inr (by omega)) (fun b hb => by
         rcases hb with hb | hb
         ·have:=h.fl b hb; simp; omega
         ·simp [hb]) hbel
       refine wp_next h hd k1 k2 (hrun (by rw [hx',g1]; exact hrn)) ?_ hK
       unfold RepM RepD
       refine ⟨_,_,rfl,hge,hle,.inr ⟨w.heap.size,0,e.sz,rfl,.inr rfl,?_⟩⟩
       refine RepR_flat rows' news 0 hok (RepDL.mono k2.foot k2.cell _ _ g4) g5 fun j v hj => ?_
       rw [cell_of_row _ w.heap.size (0 + j) _ et' (0,0) (heap_alloc_new w.drew _)]
       have hjl : j < news.length:=by
        rcases Nat.lt_or_ge j news.length with h | h
        ·exact h
        ·rw [List.getElem?_eq_none h] at hj; cases hj
       rw [Nat.zero_add,Array.getElem?_append_left (by simpa using hjl)]
       simpa using hj
     | ms k off n =>
      obtain ⟨hn,hb1,hb2,hK⟩:=hK
      obtain ⟨rows',p,cp,news,F1,g1,g2,g3,g4,g5,rfl,g6,hK⟩:=rowsOf_sound h hy' hK
      have hlen : rows'.length = n:=by
       unfold RepM at hy'
       obtain ⟨m,_,⟨e1,_⟩ | ⟨e0,_⟩⟩:=hy'
       ·rw [e1] at g1; cases g1; rfl
       ·omega
      subst hlen
      have hr : rows' ≠ []:=fun e => by subst e; simp at hn
      obtain ⟨b,off,rfl,g7⟩:=g6.resolve_left hr
      have hm : ((maxLen : Nat) : Int) = 9223372036854775807:=by simp [maxLen]
      have hrn:=run_append_nil (P:=P) (w:=w) t o.type et' ti z hu hi hz ⟨b,off,none⟩ rows'.length cp news (by rw [g3,hsz]) (fun j u hj => by rw [Addr.add_lit]; exact g7 j u hj) hn (by omega) (by rw [<- hby]; omega)
      generalize hcap : grownCap w rows'.length 0 et' = cap at hrn
      have hge : rows'.length <= cap:=by rw [<- hcap]; exact grownCap_ge w _ _ _
      have hle : cap <= maxLen:=by rw [<- hcap]; exact grownCap_le_maxLen w _ _ _ hb2
      have hzl:=size_zeroCells z.cells (cap - rows'.length)
      generalize hz' : Builtin.zeroCells z.cells (cap - rows'.length) = zs at hrn hzl
      have hdr : HR c F1 M s.hp s.nx w.drew:=(h.toHR.keep (w':=w.drew) (F':=F1) (fun _ _ => rfl) (fun _ h => h) (fun _ h => .inl h) h.fl h.bel.drew).1
      have htd : Tr F1 M w F1 M w.drew:=(h.toHR.keep (w':=w.drew) (F':=F1) (fun _ _ => rfl) (fun _ h => h) (fun _ h => .inl h) h.fl h.bel.drew).2
      obtain ⟨M',k1,k2,k3⟩:=hdr.newArr (rows:=rows') (vs:=news ++ zs.toList) (sz:=e.sz) (cap:=cap) (et:=et')
       (by rw [<- g3,List.take_left]; exact RepDL.mono htd.foot htd.cell _ _ g4) g5 g2 (by omega) hge hle (by
        rw [List.length_append,g3]; simp only [Array.length_toList,hzl,hzs]; rw [<- Nat.add_mul]; congr 1; omega)
      have harr : (⟨news ++ zs.toList⟩ : Array Value) = news.toArray ++ zs:=by apply Array.ext'; simp
      rw [harr] at k1 k2
      refine wp_next h hd k1 (htd.trans k2) (hrun (by rw [hx',g1]; exact hrn)) ?_ hK
      unfold RepM
      exact ⟨_,k3,.inl ⟨by simp,by simp; omega⟩⟩
     | _ => exact hK.elim
    | ms k off n =>
     cases off with
     | succ off => exact hK.elim
     | zero =>
      simp only at hK
      cases hb : s.hp k with
      | none => rw [hb] at hK; exact hK.elim
      | some blk =>
       cases blk with
       | res => first | exact hK.elim | (rw [hb] at hK; exact hK.elim) | exact h.elim | (rw [hb] at h; exact h.elim) | (rw [hb] at hK2; exact hK2.elim) | (rw [hb] at hK; simp only at hK; exact hK.elim) | exact Sel.no | exact Gives.none | exact Give2.none | exact toDB_ok hp (.ms k off len) | (have:=Sel.toD (hp:=hp) (.ms k off len); exact this) | exact .inl rfl | (cases hK; done) | (cases h; done)
       | mp _ => first | exact hK.elim | (rw [hb] at hK; exact hK.elim) | exact h.elim | (rw [hb] at h; exact h.elim) | (rw [hb] at hK2; exact hK2.elim) | (rw [hb] at hK; simp only at hK; exact hK.elim) | exact Sel.no | exact Gives.none | exact Give2.none | exact toDB_ok hp (.ms k off len) | (have:=Sel.toD (hp:=hp) (.ms k off len); exact this) | exact .inl rfl | (cases hK; done) | (cases h; done)
       | box cs =>
        cases cs with
        | cons _ _ => rw [hb] at hK; exact hK.elim
        | nil =>
        rw [hb] at hK
        simp only at hK
        cases ay with
        | sl rows =>
         obtain ⟨hb1,hb2,hok,hK⟩:=hK
         obtain ⟨rows',p,cp,news,F1,g1,g2,g3,g4,g5,rfl,g6,rfl⟩:=rowsOf_sound (K':=fun r => r = rows) h hy' ⟨hok,rfl⟩
         obtain ⟨m,f1,_,_,_,f6,_⟩:=h.box k [] hb
         have hcap0 : m.cap = 0:=f6.2.symm
         unfold RepM at hx'
         obtain ⟨m',h1,h2⟩:=hx'
         rw [f1] at h1; cases h1
         rcases h2 with ⟨h2,h3⟩ | ⟨_,h3,_⟩
         case inr => omega
         have hn0 : n = 0:=by omega
         subst hn0
         have hev : a.eval x = .slice (some ⟨m.b,0,none⟩) 0 0:=by rw [h2]; simp [hcap0]
         by_cases hr : rows' = []
         ·subst hr
          refine wp_pure h hd (hrun (v':=.slice (some ⟨m.b,0,none⟩) 0 0) (w':=w) ?_) ?_ hK
          ·rw [hev,g1]
           exact run_append_nothing' hu hi _ p 0 0 cp (Nat.le_refl _)
          ·unfold RepM RepD
           exact ⟨some ⟨m.b,0,none⟩,0,by simp,by simp,by simp,.inl rfl⟩
         ·obtain ⟨b,off,rfl,g7⟩:=g6.resolve_left hr
          have hpos : 0 < rows'.length:=List.length_pos_iff.2 hr
          have hm : ((maxLen : Nat) : Int) = 9223372036854775807:=by simp [maxLen]
          have hrn:=run_append_grow (P:=P) (w:=w) t o.type et' ti z hu hi hz ⟨m.b,0,none⟩ 0 0 [] (by simp) (fun j u hj => by simp at hj) ⟨b,off,none⟩ rows'.length cp news (by rw [g3,hsz]) (fun j u hj => by rw [Addr.add_lit]; exact g7 j u hj) (by omega) (by rw [Nat.zero_add]; omega) (growslice_fits (by omega) (by rw [Nat.zero_add,<- hby]; omega))
          rw [Nat.zero_add,show ([] : List Value).toArray ++ news.toArray = news.toArray by simp] at hrn
          generalize hcap : grownCap w rows'.length 0 et' = cap at hrn
          have hge : rows'.length <= cap:=by rw [<- hcap]; exact grownCap_ge w _ _ _
          have hle : cap <= maxLen:=by rw [<- hcap]; exact grownCap_le_maxLen w _ _ _ hb2
          generalize hz' : Builtin.zeroCells z.cells (cap - rows'.length) = zs at hrn
          have hbel : Below c.w0.heap.size c.w0 (w.drew.alloc (.cells (news.toArray ++ zs) et')):=(h.bel.drew).alloc h.bel.size _
          obtain ⟨k1,k2⟩:=h.toHR.keep (w':=w.drew.alloc (.cells (news.toArray ++ zs) et')) (F':=fun b => F1 b ∨ b = w.heap.size) (fun b hb => heap_alloc_old w.drew _ b hb) (fun b hb => .inl hb)
           (fun b hb => by rcases hb with hb | hb; exact .inl hb; exact .inr (by omega)) (fun b hb => by
            rcases hb with hb | hb
            ·have:=h.fl b hb; simp; omega
            ·simp [hb]) hbel
          refine wp_next h hd k1 k2 (hrun (by rw [hev,g1]; exact hrn)) ?_ hK
          unfold RepM RepD
          refine ⟨_,_,rfl,hge,hle,.inr ⟨w.heap.size,0,e.sz,rfl,.inr rfl,?_⟩⟩
          refine RepR_flat rows' news 0 hok (RepDL.mono k2.foot k2.cell _ _ g4) g5 fun j v hj => ?_
          rw [cell_of_row _ w.heap.size (0 + j) _ et' (0,0) (heap_alloc_new w.drew _)]
          have hjl : j < news.length:=by
           rcases Nat.lt_or_ge j news.length with h | h
           ·exact h
           ·rw [List.getElem?_eq_none h] at hj; cases hj
          rw [Nat.zero_add,Array.getElem?_append_left (by simpa using hjl)]
          simpa using hj
        | _ => exact hK.elim
       | own _ _ => rw [hb] at hK; exact hK.elim
       | arr sz rows lv =>
        cases lv with
        | false => rw [hb] at hK; exact hK.elim
        | true =>
         rw [hb] at hK
         simp only at hK
         cases hq : and (Nat.beq sz.1 et') (Nat.beq sz.2 e.sz) with
         | false => rw [hq] at hK; exact hK.elim
         | true =>
          rw [hq] at hK
          simp only [Bool.and_eq_true] at hq
          have hq1:=Nat.eq_of_beq_eq_true hq.1
          have hq2:=Nat.eq_of_beq_eq_true hq.2
          obtain ⟨hn,hK⟩:=hK
          obtain ⟨rows',p,cp,news,F1,g1,g2,g3,g4,g5,rfl,g6,hb1,hb2,hK⟩:=rowsOf_sound h hy' hK
          obtain ⟨m,f1,f2,f3,f4,_,f6,f7,f8,f9⟩:=h.arr k sz rows true hb
          have hme : m.e = et':=by rw [<- hq1,<- f2]
          have hms : m.sz = e.sz:=by rw [<- hq2,<- f2]
          unfold RepM at hx'
          obtain ⟨m',h1,h2⟩:=hx'
          rw [f1] at h1; cases h1
          rcases h2 with ⟨h2,h3⟩ | ⟨_,h3,_⟩
          case inr => omega
          obtain ⟨olds,o1,o2,o3,o4⟩:=RepR.vals rows 0 f9
          rw [hms] at o1 f9
          have hokr : RowsOk e.sz rows:=fun r hr => RepR.rowlen f9 r hr
          have hokall : RowsOk e.sz (rows ++ rows'):=fun r hr => by
           rcases List.mem_append.1 hr with hr | hr
           ·exact hokr r hr
           ·exact g2 r hr
          have hones : ∀ x ∈ (rows ++ rows').flatten,one x = true:=fun x hx => by
           rw [List.flatten_append,List.mem_append] at hx
           rcases hx with hx | hx
           ·exact o3 x hx
           ·exact g5 x hx
          have hnews1:=cells_one g4 g5
          have hev : a.eval x = .slice (some ⟨m.b,0,none⟩) n m.cap:=by rw [h2]; simp
          by_cases hr0 : rows' = []
          ·subst hr0
           have hnl : news = []:=List.eq_nil_of_length_eq_zero (by simpa using g3)
           subst hnl
           obtain ⟨k1,k2⟩:=h.toHR.grow (w':=w) (some k) (m:=m) (blk:=.arr (et',e.sz) (rows ++ []) true) (fun _ _ _ => rfl) (Nat.le_refl _) (fun j hj => by cases hj; exact ⟨by rw [hb]; simp,fun mk hmk => by rw [f1] at hmk; cases hmk; exact f4 rfl⟩) (.inr ⟨k,m,rfl,f1,rfl⟩) h.bel f6
            (fun t => ⟨by rw [hme,hms],rfl,by simpa using f7,f8,by rw [List.append_nil,hms]; exact RepR.mono' t f9⟩)
           refine wp_next h hd k1 k2 (hrun (v':=.slice (some ⟨m.b,0,none⟩) n m.cap) (w':=w) (by rw [hev,g1]; exact run_append_nothing' hu hi _ p n m.cap cp (by omega))) ?_ hK
           unfold RepM
           exact ⟨m,by simp,.inl ⟨by simp,by simp; omega⟩⟩
          ·obtain ⟨b,off,rfl,g7⟩:=g6.resolve_left hr0
           obtain ⟨cur,hg,hcs⟩:=f6
           rw [hme] at hg
           have hcs' : cur.size = m.cap * e.sz:=by rw [hcs,hms]
           by_cases hroom : n + rows'.length <= m.cap
           ·have hfit : n * e.sz + news.length <= cur.size:=by
             rw [g3,<- Nat.add_mul,hcs']; exact Nat.mul_le_mul_right _ hroom
            have hrn:=run_append_room (P:=P) w t o.type et' ti hu hi m.b n m.cap cur hg ⟨b,off,none⟩ rows'.length cp news (by rw [g3,hsz]) (fun j u hj => by rw [Addr.add_lit]; exact g7 j u hj) hnews1 hroom (by rw [<- hsz]; exact hfit)
            rw [<- hsz] at hrn
            have hl : n * e.sz + news.length <= cur.toList.length:=by simpa using hfit
            have hown' : Own (w.setRow m.b (cur.toList.take (n * e.sz) ++ news ++ cur.toList.drop (n * e.sz + news.length)).toArray) m:=by
             refine ⟨_,by rw [hme]; exact setRow_heap w m.b cur _ et' (0,0) hg,?_⟩
             have:=splice_len cur.toList news (n * e.sz) hl
             simpa [hcs] using this
            have hcell : ∀ j,(w.setRow m.b (cur.toList.take (n * e.sz) ++ news ++ cur.toList.drop (n * e.sz + news.length)).toArray).cell? ⟨m.b,j,none⟩ = if j < n * e.sz then w.cell? ⟨m.b,j,none⟩ else if j < n * e.sz + news.length then news[j - n * e.sz]? else w.cell? ⟨m.b,j,none⟩:=by
             intro j
             rw [cell_of_row _ m.b j _ et' (0,0) (setRow_heap w m.b cur _ et' (0,0) hg),cell_of_row w m.b j cur et' (0,0) hg]
             have:=splice_get cur.toList news (n * e.sz) j hl
             simpa using this
            generalize hw' : w.setRow m.b (cur.toList.take (n * e.sz) ++ news ++ cur.toList.drop (n * e.sz + news.length)).toArray = w' at hrn hown' hcell
            have hoth : ∀ b,b ≠ m.b -> w'.heap[b]? = w.heap[b]?:=fun b hb => by rw [<- hw']; exact setRow_other w m.b b _ hb
            have hsize : w'.heap.size = w.heap.size:=by rw [<- hw']; simp
            have hbel : Below c.w0.heap.size c.w0 w':=by
             refine h.bel.grown (row:=some m.b) ⟨?_,?_,?_,by omega,fun k' _ hk => hoth k' (fun e => hk (by rw [e]))⟩ h.bel.size (fun k' hk => by cases hk; exact f3) <;> (rw [<- hw']; rfl)
            obtain ⟨k1,k2⟩:=h.toHR.grow (w':=w') (some k) (m:=m) (blk:=.arr (et',e.sz) (rows ++ rows') true) (fun b' _ hb' => hoth b' (hb' k m rfl f1)) (by omega) (fun j hj => by cases hj; exact ⟨by rw [hb]; simp,fun mk hmk => by rw [f1] at hmk; cases hmk; exact f4 rfl⟩) (.inr ⟨k,m,rfl,f1,rfl⟩) hbel hown'
             (fun t => by
              refine ⟨by rw [hme,hms],rfl,⟨by simp; omega,f7.2⟩,f8,?_⟩
              rw [hms]
              refine RepR_flat (rows ++ rows') (olds ++ news) 0 hokall ?_ hones fun j u hj => ?_
              ·rw [List.flatten_append]
               exact (RepDL.mono t.foot t.cell _ _ o2).app (RepDL.mono t.foot t.cell _ _ g4)
              ·have ho1 : olds.length = n * e.sz:=by rw [o1,hn]
               rw [hcell]
               by_cases hj1 : j < olds.length
               ·rw [List.getElem?_append_left hj1] at hj
                rw [if_pos (by omega)]
                exact o4 j u hj
               ·rw [List.getElem?_append_right (by omega)] at hj
                have hj2 : j - olds.length < news.length:=by
                 rcases Nat.lt_or_ge (j - olds.length) news.length with h | h
                 ·exact h
                 ·rw [List.getElem?_eq_none h] at hj; cases hj
                rw [if_neg (by omega),if_pos (by omega),<- hj]; congr 1; omega)
            refine wp_next h hd k1 k2 (hrun (v':=.slice (some ⟨m.b,0,none⟩) (n + rows'.length) m.cap) (w':=w') (by rw [hev,g1]; exact hrn)) ?_ hK
            unfold RepM
            exact ⟨m,by simp,.inl ⟨by simp,by simp; omega⟩⟩
           ·obtain ⟨v',w',hrn,r1,r2⟩:=run_append_arg_grows (P:=P) w t o.type et' ti z e.sz e.by_ hu hi hz hsz.symm hby.symm hzs (by omega) ⟨m.b,0,none⟩ n m.cap olds (by rw [o1,hn]) (fun j u hj => by rw [Addr.add_lit]; exact o4 j u hj)
             ⟨b,off,none⟩ rows'.length cp news g3 (fun j u hj => by rw [Addr.add_lit]; exact g7 j u hj) (by omega) hb2 hb1
            have r1':=r1.2
            rcases r1' with ⟨_,h0⟩ | ⟨g,cap',cur',rfl,q1,q2,q3,q4,q5,_⟩
            ·omega
            ·have hbel : Below c.w0.heap.size c.w0 w':=h.bel.grown (row:=none) r2 h.bel.size (fun k' hk => by cases hk)
             obtain ⟨k1,k2⟩:=h.toHR.grow (w':=w') (some k) (m:=⟨g,e.sz,cap',et'⟩) (blk:=.arr (et',e.sz) (rows ++ rows') true) (fun b' hb' _ => r2.block b' hb' (by simp)) r2.size (fun j hj => by cases hj; exact ⟨by rw [hb]; simp,fun mk hmk => by rw [f1] at hmk; cases hmk; exact f4 rfl⟩) (.inl q1) hbel ⟨cur',q2,q5⟩
              (fun t => ⟨rfl,rfl,⟨by simp; omega,q4⟩,(show 0 < e.sz by omega),ownsRow_flat r1 hokall (by rw [List.flatten_append]; exact (RepDL.mono t.foot t.cell _ _ o2).app (RepDL.mono t.foot t.cell _ _ g4)) hones⟩)
             refine wp_next h hd k1 k2 (hrun (by rw [hev,g1]; exact hrn)) ?_ hK
             unfold RepM
             exact ⟨⟨g,e.sz,cap',et'⟩,by simp,.inl ⟨by simp,by simp; omega⟩⟩
    | _ => exact hK.elim
end
end Ab
end
section
namespace Ab
open Go Go.RowKit
section
variable {c : Ctx} {ro : Option Nat} {N : Nat} {F F' : Foot} {M M' : Nat -> Option MB} {s : St} {a : Act} {w w' : World} {P : Program} {o : Oper} {K : St -> Prop} {Q : Exit -> Act -> World -> Prop}
theorem flat_drop {sz : Nat} : ∀ (rows : List (List AV)) (n : Nat),RowsOk sz rows -> (rows.drop n).flatten = rows.flatten.drop (n * sz)
 | [],n,_ => by simp
 | r :: rs,0,_ => by simp
 | r :: rs,n + 1,h => by
   have h0:=h r (by simp)
   have e1 : r.drop ((n + 1) * sz) = []:=List.drop_of_length_le (by rw [h0,Nat.add_mul]; omega)
   rw [List.drop_succ_cons,List.flatten_cons,flat_drop rs n (fun q hq => h q (by simp [hq])),List.drop_append,h0,e1,List.nil_append]
   congr 1; rw [Nat.add_mul]; omega
theorem op_copy {x y : Operand} {args : Array Operand} {ts : Array TypeId} {t u : TypeId} (ha : args = #[x,y]) (hts : ts = #[t,u]) (ho : o.op = .call { callee:=.builtin .copy,args:=args,argTypes:=ts })
  (hT : TOk P c.T) (h : Rel c N F M s a w) (hd : ∀ t,o.dst = some t -> t < N) (hx : ∀ t,x = .tmp t -> t < N) (hy : ∀ t,y = .tmp t -> t < N)
  (hK : aCopy c.T t (ev c.gl s x) (ev c.gl s y) s fun v s' => K (Ab.put o.dst v s')) : o.wpIn (Fw ro) 0 P a w (Post c N F M w K) Q:=by
 have hx':=h.ev x hx
 have hy':=h.ev y hy
 generalize ev c.gl s x = ax at hx' hK
 generalize ev c.gl s y = ay at hy' hK
 unfold aCopy at hK
 cases he : ((look c.T t).bind fun i => i.sl).bind (look c.T) with
 | none => rw [he] at hK; exact hK.elim
 | some e =>
  rw [he] at hK
  obtain ⟨et,ti,z,hu,hi,hz,hsz,_,_,_⟩:=hT.elem he
  simp only at hK
  cases h1s : Nat.beq e.sz 1 with
  | false => rw [h1s] at hK; exact hK.elim
  | true =>
   rw [h1s] at hK
   have h1s:=Nat.eq_of_beq_eq_true h1s
   simp only at hK
   cases ax with
   | ms k off n =>
    simp only at hK
    cases hb : s.hp k with
    | none => rw [hb] at hK; exact hK.elim
    | some blk =>
     cases blk with
     | res => first | exact hK.elim | (rw [hb] at hK; exact hK.elim) | exact h.elim | (rw [hb] at h; exact h.elim) | (rw [hb] at hK2; exact hK2.elim) | (rw [hb] at hK; simp only at hK; exact hK.elim) | exact Sel.no | exact Gives.none | exact Give2.none | exact toDB_ok hp (.ms k off len) | (have:=Sel.toD (hp:=hp) (.ms k off len); exact this) | exact .inl rfl | (cases hK; done) | (cases h; done)
     | mp _ => first | exact hK.elim | (rw [hb] at hK; exact hK.elim) | exact h.elim | (rw [hb] at h; exact h.elim) | (rw [hb] at hK2; exact hK2.elim) | (rw [hb] at hK; simp only at hK; exact hK.elim) | exact Sel.no | exact Gives.none | exact Give2.none | exact toDB_ok hp (.ms k off len) | (have:=Sel.toD (hp:=hp) (.ms k off len); exact this) | exact .inl rfl | (cases hK; done) | (cases h; done)
     | box _ => rw [hb] at hK; exact hK.elim
     | own _ _ => rw [hb] at hK; exact hK.elim
     | arr sz rows lv =>
      cases lv with
      | false => rw [hb] at hK; exact hK.elim
      | true =>
       rw [hb] at hK
       simp only at hK
       cases hq : Nat.beq sz.2 1 with
       | false => rw [hq] at hK; exact hK.elim
       | true =>
        rw [hq] at hK
        have hq:=Nat.eq_of_beq_eq_true hq
        obtain ⟨rows',p,cp,news,F1,g1,g2,g3,g4,g5,rfl,g6,hfit,hK2⟩:=rowsOf_sound h hy' hK
        clear hK
        obtain ⟨m,f1,f2,f3,f4,_,f6,f7,f8,f9⟩:=h.arr k sz rows true hb
        have hms : m.sz = 1:=by rw [<- hq,<- f2]
        have hs1 : (P.info? et).map (·.size) = some 1:=by rw [hi]; simp; omega
        have hexec : ∀ {v : Value} {w' : World},(Builtin.copy_ #[t,u] o.type #[a.eval x,a.eval y]).run P w = .ok v w' -> (execOp a.eval o).run P w = .ok (.value v) w':=by
         intro v w' hr
         simp [execOp,ho,ha,hts,resolve,invoke,builtin,hr,Result.andThen]
        have hok : RowsOk 1 rows:=fun r hr => by rw [<- hms]; exact RepR.rowlen f9 r hr
        by_cases h0 : min rows'.length n = 0
        ·have hrows : rows.take off ++ rows'.take n ++ rows.drop (off + min rows'.length n) = rows:=by
          have : rows'.take n = []:=List.eq_nil_of_length_eq_zero (by rw [List.length_take,Nat.min_comm]; exact h0)
          rw [this,h0]; simp
         rw [hrows,h0] at hK2
         obtain ⟨k1,k2⟩:=h.toHR.write (k:=k) (m:=m) (blk:=.arr sz rows true) (w':=w) (by rw [hb]; simp) f1 (f4 rfl) (fun _ _ => rfl) rfl h.bel f6 (fun t => ⟨f2,rfl,f7,f8,RepR.mono' t f9⟩)
         have hr : ∃ q nn cc,a.eval x = .slice q nn cc∧nn = n:=by
          unfold RepM at hx'
          obtain ⟨m',_,⟨h1,_⟩ | ⟨h1,_,p',c',h2,_⟩⟩:=hx'
          ·exact ⟨_,_,_,h1,rfl⟩
          ·exact ⟨_,_,_,h2,h1.symm⟩
         obtain ⟨q,nn,cc,hr,rfl⟩:=hr
         refine wp_next h hd k1 k2 (hexec (v:=goInt 0) (w':=w) ?_) (by unfold RepM; rfl) hK2
         rw [hr,g1]
         exact run_copy_none w t u o.type et q p nn cc _ cp hu hs1 h0
        ·have hne : rows' ≠ []:=fun e => by subst e; simp at h0
         obtain ⟨b,of',rfl,g7⟩:=g6.resolve_left hne
         unfold RepM at hx'
         obtain ⟨m',h1,h2⟩:=hx'
         rw [f1] at h1; cases h1
         rcases h2 with ⟨h2,h3⟩ | ⟨h2,_⟩
         case inr => subst h2; simp at h0
         rw [hms,Nat.mul_one] at h2
         obtain ⟨cur,hg,hcs⟩:=f6
         rw [hms,Nat.mul_one] at hcs
         rw [Nat.mul_one] at g3
         have hvl : (news.take n).length = Nat.min rows'.length n:=by simp [g3,Nat.min_comm]
         have hn1 : ∀ u ∈ news.take n,u.oneCell' = true:=fun u hu => cells_one g4 g5 u (List.mem_of_mem_take hu)
         have hfit' : off + (news.take n).length <= cur.size:=by
          rw [hvl,hcs]
          have : Nat.min rows'.length n <= n:=Nat.min_le_right _ _
          omega
         have hrn:=run_copy_row (P:=P) w t u o.type et m.b off n (m.cap - off) ⟨b,of',none⟩ rows'.length cp cur m.e (news.take n) hu hs1 hg hvl (fun j v hj => by
          rw [List.getElem?_take] at hj
          split at hj
          ·rw [Addr.add_lit]; exact g7 j v hj
          ·cases hj) hfit' hn1
         rw [hvl] at hrn
         have hmin : Nat.min rows'.length n = min rows'.length n:=rfl
         rw [hmin] at hrn hvl
         have hl : off + (news.take n).length <= cur.toList.length:=by simpa using hfit'
         have hsg:=fun j => splice_get cur.toList (news.take n) off j hl
         have hsl:=splice_len cur.toList (news.take n) off hl
         rw [hvl] at hsg hsl
         generalize hwc : (cur.toList.take off ++ news.take n ++ cur.toList.drop (off + min rows'.length n)) = wc at hrn hsg hsl
         have hwh:=setRow_heap w m.b cur wc.toArray m.e (0,0) hg
         have hoth : ∀ b,b ≠ m.b -> (w.setRow m.b wc.toArray).heap[b]? = w.heap[b]?:=fun b hb => setRow_other w m.b b _ hb
         have hbel : Below c.w0.heap.size c.w0 (w.setRow m.b wc.toArray) :=
          h.bel.grown (row:=some m.b) ⟨rfl,rfl,rfl,by simp,fun k' _ hk => hoth k' (fun e => hk (by rw [e]))⟩ h.bel.size (fun k' hk => by cases hk; exact f3)
         obtain ⟨k1,k2⟩:=h.toHR.write (k:=k) (m:=m) (w':=w.setRow m.b wc.toArray) (blk:=.arr sz (rows.take off ++ rows'.take n ++ rows.drop (off + min rows'.length n)) true) (by rw [hb]; simp) f1 (f4 rfl) hoth (by simp) hbel ⟨_,hwh,by rw [hms]; simp [hsl,hcs]⟩ (fun t => by
          have hrl : (rows'.take n).length = min rows'.length n:=by simp [Nat.min_comm]
          have hlr : off + (rows'.take n).length <= rows.length:=by rw [hrl]; omega
          have hlen:=splice_len rows (rows'.take n) off hlr
          rw [hrl] at hlen
          refine ⟨f2,rfl,⟨by rw [hlen]; exact f7.1,f7.2⟩,f8,RepR_of _ 0 fun r row hr => ?_⟩
          have hsr:=splice_get rows (rows'.take n) off r hlr
          rw [hrl] at hsr
          rw [hsr] at hr
          rw [hms,Nat.zero_add,Nat.mul_one]
          by_cases c1 : r < off
          ·rw [if_pos c1] at hr
           have hrr:=RepR.at rows 0 r row f9 hr
           rw [hms,Nat.zero_add,Nat.mul_one] at hrr
           refine ⟨hrr.1,RepC_of _ _ fun j x hj => ?_⟩
           obtain ⟨e1,v,e2,e3⟩:=RepC.at row r j x hrr.2 hj
           have hj0 : j = 0:=by
            rcases Nat.lt_or_ge j row.length with h | h
            ·omega
            ·rw [List.getElem?_eq_none h] at hj; cases hj
           subst hj0
           refine ⟨e1,v,?_,RepD.mono t.foot t.cell _ _ e3⟩
           rw [cell_of_row _ m.b (r + 0) wc.toArray m.e (0,0) hwh]
           rw [cell_of_row w m.b (r + 0) cur m.e (0,0) hg] at e2
           have:=hsg (r + 0)
           rw [if_pos (by omega)] at this
           simpa using this.trans (by simpa using e2)
          ·rw [if_neg c1] at hr
           by_cases c2 : r < off + min rows'.length n
           ·rw [if_pos c2,List.getElem?_take,if_pos (by omega)] at hr
            have hr1:=g2 row (List.mem_of_getElem? hr)
            refine ⟨hr1,RepC_of _ _ fun j x hj => ?_⟩
            have hj0 : j = 0:=by
               rcases Nat.lt_or_ge j row.length with h | h
               ·omega
               ·rw [List.getElem?_eq_none h] at hj; cases hj
            subst hj0
            have hflat : rows'.flatten[r - off]? = some x:=by
               have e1:=flat_drop rows' (r - off) g2
               have hlt : r - off < rows'.length:=by omega
               rw [List.drop_eq_getElem_cons hlt,List.flatten_cons,Nat.mul_one] at e1
               have e2 : rows'[r - off] = row:=by rw [List.getElem?_eq_getElem hlt] at hr; exact Option.some.inj hr
               rw [e2] at e1
               have e3 : (rows'.flatten.drop (r - off))[0]? = some x:=by
                rw [<- e1,List.getElem?_append_left (by omega)]; exact hj
               rw [List.getElem?_drop] at e3
               simpa using e3
            obtain ⟨v,e2,e3⟩:=RepDL.get _ _ _ _ g4 hflat
            refine ⟨g5 x (List.mem_of_getElem? hflat),v,?_,RepD.mono t.foot t.cell _ _ e3⟩
            rw [cell_of_row _ m.b (r + 0) wc.toArray m.e (0,0) hwh]
            have:=hsg (r + 0)
            rw [if_neg (by omega),if_pos (by omega),List.getElem?_take,if_pos (by omega)] at this
            simpa using this.trans (by simpa using e2)
           ·rw [if_neg c2] at hr
            have hrr:=RepR.at rows 0 r row f9 hr
            rw [hms,Nat.zero_add,Nat.mul_one] at hrr
            refine ⟨hrr.1,RepC_of _ _ fun j x hj => ?_⟩
            obtain ⟨e1,v,e2,e3⟩:=RepC.at row r j x hrr.2 hj
            have hj0 : j = 0:=by
               rcases Nat.lt_or_ge j row.length with h | h
               ·omega
               ·rw [List.getElem?_eq_none h] at hj; cases hj
            subst hj0
            refine ⟨e1,v,?_,RepD.mono t.foot t.cell _ _ e3⟩
            rw [cell_of_row _ m.b (r + 0) wc.toArray m.e (0,0) hwh]
            rw [cell_of_row w m.b (r + 0) cur m.e (0,0) hg] at e2
            have:=hsg (r + 0)
            rw [if_neg (by omega),if_neg (by omega)] at this
            simpa using this.trans (by simpa using e2))
         refine wp_next h hd k1 k2 (hexec (v:=goInt (min rows'.length n : Nat)) (w':=w.setRow m.b wc.toArray) ?_) (by unfold RepM; rfl) hK2
         rw [h2,g1]
         exact hrn
   | _ => exact hK.elim
end
end Ab
end
section
namespace Ab
open Go Go.RowKit
section
variable {c : Ctx} {ro : Option Nat} {N : Nat} {F F' : Foot} {M M' : Nat -> Option MB} {s : St} {a : Act} {w w' : World} {P : Program} {o : Oper} {K : St -> Prop} {Q : Exit -> Act -> World -> Prop}
theorem fold_list (off : Nat) : ∀ (vs : List Value) (k : Nat) (cur : Array Value),off + k + vs.length <= cur.size ->
  ((vs.zipIdx k).foldl (fun cs p => cs.setIfInBounds (off + p.2) p.1) cur).toList = cur.toList.take (off + k) ++ vs ++ cur.toList.drop (off + k + vs.length)
 | [],k,cur,_ => by simp
 | v :: vs,k,cur,h => by
   simp only [List.length_cons] at h
   rw [List.zipIdx_cons,List.foldl_cons,fold_list off vs (k + 1) _ (by simp; omega)]
   apply List.ext_getElem?
   intro j
   have h1:=splice_get (cur.setIfInBounds (off + k) v).toList vs (off + (k + 1)) j (by simp; omega)
   have h2:=splice_get cur.toList (v :: vs) (off + k) j (by simp; omega)
   rw [h1,h2]
   simp only [Array.toList_setIfInBounds,List.getElem?_set,List.length_cons,Array.length_toList]
   by_cases c1 : j < off + k
   ·rw [if_pos (by omega),if_pos c1,if_neg (by omega)]
   ·rw [if_neg c1]
    by_cases c2 : j = off + k
    ·subst c2
     rw [if_pos (by omega),if_pos rfl,if_pos (by omega),if_pos (by omega)]; simp
    ·rw [if_neg (by omega)]
     by_cases c3 : j < off + k + (vs.length + 1)
     ·rw [if_pos (by omega),if_pos c3,show j - (off + k) = (j - (off + (k + 1))) + 1 by omega]; simp
     ·rw [if_neg (by omega),if_neg (by omega),if_neg (by omega)]
theorem fold_arr (off : Nat) (vs cur : Array Value) (h : off + vs.size <= cur.size) :
  (vs.zipIdx.foldl (fun cs (x : Value × Nat) => cs.setIfInBounds (off + x.2) x.1) cur).toList = cur.toList.take off ++ vs.toList ++ cur.toList.drop (off + vs.size):=by
 rw [<- Array.foldl_toList,Array.toList_zipIdx]
 have:=fold_list off vs.toList 0 cur (by simpa using h)
 simpa using this
theorem RepML_of : ∀ (l : List AV) (vs : List Value),l.length = vs.length -> (∀ (j : Nat) (x : AV) (v : Value),l[j]? = some x -> vs[j]? = some v -> RepM w F M x v) -> RepML w F M l vs
 | [],vs,h,_ => by
   unfold RepML
   exact List.eq_nil_of_length_eq_zero (by simpa using h.symm)
 | x :: l,[],h,_ => by simp at h
 | x :: l,v :: vs,h,hp => by
   unfold RepML
   exact ⟨v,vs,rfl,hp 0 x v rfl rfl,RepML_of l vs (by simpa using h) fun j y u hy hu => hp (j + 1) y u (by simpa using hy) (by simpa using hu)⟩
theorem RepML.app {l m : List AV} {vs us : List Value} (h : RepML w F M l vs) (g : RepML w F M m us) : RepML w F M (l ++ m) (vs ++ us):=by
 refine RepML_of _ _ (by simp [RepML.len _ _ h,RepML.len _ _ g]) fun j x v hx hv => ?_
 have hl:=RepML.len _ _ h
 by_cases hj : j < l.length
 ·rw [List.getElem?_append_left hj] at hx
  rw [List.getElem?_append_left (by omega)] at hv
  obtain ⟨u,h1,h2⟩:=RepML.get _ _ _ _ h hx
  rw [hv] at h1; cases h1; exact h2
 ·rw [List.getElem?_append_right (by omega)] at hx
  rw [List.getElem?_append_right (by omega),hl] at hv
  obtain ⟨u,h1,h2⟩:=RepML.get _ _ _ _ g hx
  rw [hv] at h1; cases h1; exact h2
theorem RepML.take {l : List AV} {vs : List Value} (n : Nat) (h : RepML w F M l vs) : RepML w F M (l.take n) (vs.take n):=by
 refine RepML_of _ _ (by simp [RepML.len _ _ h]) fun j x v hx hv => ?_
 rw [List.getElem?_take] at hx hv
 split at hx
 ·rename_i hj
  rw [if_pos hj] at hv
  obtain ⟨u,h1,h2⟩:=RepML.get _ _ _ _ h hx
  rw [hv] at h1; cases h1; exact h2
 ·cases hx
theorem RepML.drop {l : List AV} {vs : List Value} (n : Nat) (h : RepML w F M l vs) : RepML w F M (l.drop n) (vs.drop n):=by
 refine RepML_of _ _ (by simp [RepML.len _ _ h]) fun j x v hx hv => ?_
 rw [List.getElem?_drop] at hx hv
 obtain ⟨u,h1,h2⟩:=RepML.get _ _ _ _ h hx
 rw [hv] at h1; cases h1; exact h2
theorem fill_struct (lay : List (Nat × Nat)) : ∀ (ps : List (Nat × Operand)) (cs : List AV) (cur : Array Value),(∀ p ∈ ps,∀ t,p.2 = .tmp t -> t < N) -> Rel c N F M s a w -> RepML w F M cs cur.toList ->
  ∀ {K : List AV -> Prop},fillA lay (evParts c.gl s ps) cs K ->
  ∃ cs' cur',Instr.fill (fun i => lay[i]?) cur (ps.map fun p => (p.1,a.eval p.2)) = some cur'∧RepML w F M cs' cur'.toList∧K cs'
 | [],cs,cur,_,h,hr,K,hK => by
   unfold evParts fillA at hK
   rw [forceL_eq] at hK
   exact ⟨cs,cur,rfl,hr,hK⟩
 | (i,x) :: ps,cs,cur,hx,h,hr,K,hK => by
   unfold evParts fillA at hK
   rw [nth_eq] at hK
   cases hl : lay[i]? with
   | none => rw [hl] at hK; exact hK.elim
   | some p =>
    obtain ⟨off,size⟩:=p
    rw [hl] at hK
    simp only [lenL_eq,takeL_eq,dropL_eq,appL_eq] at hK
    cases hb : and (and (Nat.beq (cells (ev c.gl s x)).length size) (Nat.ble (off + size) cs.length)) (ones (cells (ev c.gl s x))) with
    | false => rw [hb] at hK; exact hK.elim
    | true =>
     rw [hb] at hK
     simp only [Bool.and_eq_true] at hb
     have h1:=Nat.eq_of_beq_eq_true hb.1.1
     have h2:=Nat.le_of_ble_eq_true hb.1.2
     have hv:=h.ev x (hx (i,x) (by simp))
     have hcv : RepML w F M (cells (ev c.gl s x)) (a.eval x).cells.toList:=(cells_rep hb.2 hv).1
     have hl1:=RepML.len _ _ hcv
     have hl2:=RepML.len _ _ hr
     have hfold:=fold_arr off (a.eval x).cells cur (by simp at hl1 hl2; omega)
     have hr' : RepML w F M (cs.take off ++ (cells (ev c.gl s x) ++ cs.drop (off + size))) ((a.eval x).cells.zipIdx.foldl (fun cs (x : Value × Nat) => cs.setIfInBounds (off + x.2) x.1) cur).toList:=by
      rw [hfold,<- List.append_assoc]
      have e : (a.eval x).cells.size = size:=by simp at hl1; omega
      rw [e]
      exact ((hr.take off).app hcv).app (hr.drop (off + size))
     obtain ⟨cs',cur',k1,k2,k3⟩:=fill_struct lay ps _ _ (fun p hp => hx p (by simp [hp])) h hr' hK
     refine ⟨cs',cur',?_,k2,k3⟩
     rw [List.map_cons,Instr.fill,hl]
     simp only
     have e1 : (a.eval x).cells.size = size:=by simp at hl1; omega
     have e2 : ¬ (off + (a.eval x).cells.size > cur.size):=by simp at hl1 hl2; omega
     simp only [e1,ne_eq,not_true_eq_false,decide_false,Bool.false_or]
     rw [if_neg (by rw [e1] at e2; simpa using e2)]
     exact k1
theorem run_places (fs : Array Field) (h : ∀ f ∈ fs.toList,(P.info? f.type).isSome = true) :
  (fs.mapM (m:=Sem) fun f => Prod.mk f.offset <$> Go.sizeOf f.type).run P w = .ok ((fs.toList.map fun f => (f.offset,P.cellsOf f.type)).toArray) w:=by
 have key : ∀ (l : List Field),(∀ f ∈ l,(P.info? f.type).isSome = true) -> (l.mapM (m:=Sem) fun f => Prod.mk f.offset <$> Go.sizeOf f.type).run P w = .ok (l.map fun f => (f.offset,P.cellsOf f.type)) w:=by
  intro l
  induction l with
  | nil => intro _; rfl
  | cons f l ih =>
   intro hl
   obtain ⟨ti,hi⟩:=Option.isSome_iff_exists.1 (hl f (by simp))
   have hs : (Go.sizeOf f.type).run P w = .ok (P.cellsOf f.type) w:=by simp [Go.sizeOf,typeInfo,hi,Program.cellsOf]
   have:=ih (fun g hg => hl g (by simp [hg]))
   simp [List.mapM_cons,hs,this]
 have e : fs.mapM (m:=Sem) (fun f => Prod.mk f.offset <$> Go.sizeOf f.type) = List.toArray <$> fs.toList.mapM (m:=Sem) (fun f => Prod.mk f.offset <$> Go.sizeOf f.type):=by
  rw [Array.mapM_eq_mapM_toList]
 rw [e]
 simp [key fs.toList h]
theorem op_field {t : TypeId} {x : Operand} {f : Nat} (ho : o.op = .field t x f) (hT : TOk P c.T) (h : Rel c N F M s a w) (hd : ∀ t,o.dst = some t -> t < N) (hx : ∀ t,x = .tmp t -> t < N)
  (hK : aField c.T t (ev c.gl s x) f fun v => K (Ab.put o.dst v s)) : o.wpIn (Fw ro) 0 P a w (Post c N F M w K) Q:=by
 have hx':=h.ev x hx
 generalize ev c.gl s x = ax at hx' hK
 unfold aField at hK
 cases hl : look c.T t with
 | none => rw [hl] at hK; exact hK.elim
 | some i =>
  rw [hl] at hK
  simp only at hK
  cases hf : i.fo with
  | false => rw [hf] at hK; exact hK.elim
  | true =>
   rw [hf] at hK
   simp only [nth_eq] at hK
   cases hla : i.lay[f]? with
   | none => rw [hla] at hK; exact hK.elim
   | some p =>
    obtain ⟨off,size⟩:=p
    rw [hla] at hK
    simp only at hK
    cases hfa : i.fag[f]? with
    | none => rw [hfa] at hK; exact hK.elim
    | some ag =>
     rw [hfa] at hK
     simp only at hK
     obtain ⟨ti,d,z,hi,hu,hz,_,_,hzv,_,_,_,hlay,hne,_,_,_,hfo,_⟩:=hT.parts hl
     obtain ⟨fs,rfl⟩:=hne (by intro e; rw [e] at hla; simp at hla)
     have hlay:=hlay fs rfl
     rw [hlay] at hla
     have hfag : i.fag = (match fs.toList.all (fun f => (P.underlying f.type).isSome) with | true => fs.toList.map fun f => isAggT P f.type | false => []):=by
      have h:=hT t i hl
      unfold tyOf at h
      rw [hi,hu] at h
      simp only [hz] at h
      cases hq : Nat.beq z.cells.size ti.size with
      | false => rw [hq] at h; cases h
      | true =>
       rw [hq] at h
       simp only [cond_true,Option.some.injEq] at h
       have h2:=congrArg TyI.fag h
       exact h2.symm
     rw [hfag] at hfa
     cases hall : fs.toList.all (fun f => (P.underlying f.type).isSome) with
     | false => rw [hall] at hfa; simp at hfa
     | true =>
     rw [hall] at hfa
     simp only [List.getElem?_map] at hla hfa
     cases hg : fs.toList[f]? with
     | none => rw [hg] at hla; cases hla
     | some fd =>
      rw [hg] at hla hfa
      simp only [Option.map_some,Option.some.injEq,Prod.mk.injEq] at hla hfa
      obtain ⟨rfl,rfl⟩:=hla
      have hund:=(List.all_eq_true.1 hall) fd (List.mem_of_getElem? hg)
      have hsome:=hfo fs rfl hf fd (List.mem_of_getElem? hg)
      obtain ⟨te,hte⟩:=Option.isSome_iff_exists.1 hsome
      have hcs : P.cellsOf fd.type = te.size:=by simp [Program.cellsOf,hte]
      have hfd : fs[f]? = some fd:=by simpa using hg
      cases ax with
      | agg cs =>
       unfold RepM at hx'
       obtain ⟨vs,hv,hr⟩:=hx'
       have hrun : ∀ v,(part fd.type ⟨vs⟩ fd.offset).run P w = .ok v w -> (execOp a.eval o).run P w = .ok (.value v) w:=by
        intro v hp
        simp [execOp,ho,hv,Instr.field,run_underlying hu,hfd,asAgg,hp,Result.andThen]
       cases ag with
       | false =>
        simp only [rd,nth_eq] at hK
        cases hc : cs[fd.offset]? with
        | none => rw [hc] at hK; exact hK.elim
        | some av =>
         rw [hc] at hK
         simp only [force_eq] at hK
         obtain ⟨v,h1,h2⟩:=RepML.get _ _ _ _ hr hc
         refine wp_pure h hd (hrun v ?_) h2 hK
         unfold isAggT at hfa
         unfold part isAgg
         cases hd' : P.underlying fd.type with
         | none => rw [hd'] at hund; simp at hund
         | some d => rw [hd'] at hfa; cases d <;> first | (cases hfa; done) | simp [run_underlying hd',h1]
       | true =>
        simp only [rd,lenL_eq,takeL_eq,dropL_eq] at hK
        cases hle : Nat.ble (fd.offset + P.cellsOf fd.type) cs.length with
        | false => rw [hle] at hK; exact hK.elim
        | true =>
         rw [hle] at hK
         simp only [forceL_eq] at hK
         refine wp_pure h hd (hrun (.agg ⟨(vs.drop fd.offset).take (P.cellsOf fd.type)⟩) ?_) ?_ hK
         ·unfold isAggT at hfa
          unfold part isAgg
          have he : (⟨vs⟩ : Array Value).extract fd.offset (fd.offset + te.size) = ⟨(vs.drop fd.offset).take te.size⟩:=by
           apply Array.ext'
           simp
          cases hd' : P.underlying fd.type with
          | none => rw [hd'] at hund; simp at hund
          | some d => rw [hd'] at hfa; cases d <;> first | (cases hfa; done) | simp [run_underlying hd',Go.sizeOf,typeInfo,hte,hcs]
         ·unfold RepM
          exact ⟨_,rfl,(hr.drop _).take _⟩
      | _ => exact hK.elim
theorem op_index {t : TypeId} {x y : Operand} (ho : o.op = .index t x y) (hT : TOk P c.T) (h : Rel c N F M s a w) (hd : ∀ t,o.dst = some t -> t < N) (hx : ∀ t,x = .tmp t -> t < N) (hy : ∀ t,y = .tmp t -> t < N)
  (hK : aIndex c.T t (ev c.gl s x) (ev c.gl s y) fun v => K (Ab.put o.dst v s)) : o.wpIn (Fw ro) 0 P a w (Post c N F M w K) Q:=by
 have hx':=h.ev x hx
 have hy':=h.ev y hy
 generalize ev c.gl s x = ax at hx' hK
 generalize ev c.gl s y = ay at hy' hK
 unfold aIndex at hK
 cases hl : look c.T t with
 | none => rw [hl] at hK; exact hK.elim
 | some ty =>
  rw [hl] at hK
  simp only at hK
  cases harr : ty.arr with
  | none => rw [harr] at hK; exact hK.elim
  | some p =>
   obtain ⟨n,sz⟩:=p
   rw [harr] at hK
   simp only at hK
   cases hae : ty.ael with
   | none => rw [hae] at hK; exact hK.elim
   | some et =>
    rw [hae] at hK
    simp only [Option.bind_some] at hK
    cases hle : look c.T et with
    | none => rw [hle] at hK; exact hK.elim
    | some e =>
     rw [hle] at hK
     simp only at hK
     cases hb : and (Nat.beq e.sz 1) (not e.ag) with
     | false =>
      rw [hb] at hK
      simp only at hK
      cases hag0 : e.ag with
      | false => rw [hag0] at hK; exact hK.elim
      | true =>
       rw [hag0] at hK
       obtain ⟨_,d,_,_,hu,_,_,_,_,_,_,_,_,_,ha,_⟩:=hT.parts hl
       obtain ⟨e',hd',_⟩:=ha n sz harr
       have hee : e' = et:=by
        have h:=hT t ty hl
        unfold tyOf at h
        split at h
        ·rename_i ti d' e1 e2
         split at h
         ·rename_i z e3
          rw [hu] at e2
          cases e2
          cases hq : Nat.beq z.cells.size ti.size with
          | false => rw [hq] at h; cases h
          | true =>
           rw [hq] at h
           simp only [cond_true,Option.some.injEq] at h
           subst h
           subst hd'
           simpa using hae
         ·cases h
        ·cases h
       subst hee
       obtain ⟨ti,d2,z2,hi,hu2,_,hsz,_,_,_,hag,_⟩:=hT.parts hle
       have hag:=hag hag0
       cases ax with
       | agg cs =>
        cases ay with
        | int ik i =>
         obtain ⟨h0,hlt,hK⟩:=hK
         simp only [rd,lenL_eq,takeL_eq,dropL_eq] at hK
         cases hle2 : Nat.ble (i.toNat * e.sz + e.sz) cs.length with
         | false => rw [hle2] at hK; exact hK.elim
         | true =>
          rw [hle2] at hK
          simp only [forceL_eq] at hK
          unfold RepM at hx' hy'
          obtain ⟨vs,hx',hvs⟩:=hx'
          have hia : (isAgg e').run P w = .ok true w:=by
           rcases hag with ⟨fs,rfl⟩ | ⟨n,e,rfl⟩ <;> simp [isAgg,run_underlying hu2]
          have hex : (⟨vs⟩ : Array Value).extract (i.toNat * ti.size) (i.toNat * ti.size + ti.size) = ⟨(vs.drop (i.toNat * ti.size)).take ti.size⟩:=by
           apply Array.ext'
           simp
          refine wp_pure h hd (v:=.agg ⟨(vs.drop (i.toNat * ti.size)).take ti.size⟩) ?_ ?_ hK
          ·rw [hd'] at hu
           simp [execOp,ho,hx',hy',Instr.index,asIntOf,run_underlying hu,h0,hlt,Go.sizeOf,typeInfo,hi,part,hia,Result.andThen]
          ·unfold RepM
           rw [hsz]
           exact ⟨_,rfl,(hvs.drop _).take _⟩
        | _ => exact hK.elim
       | _ => exact hK.elim
     | true =>
      rw [hb] at hK
      simp only [Bool.and_eq_true,Bool.not_eq_true'] at hb
      have h1:=Nat.eq_of_beq_eq_true hb.1
      obtain ⟨_,d,_,_,hu,_,_,_,_,_,_,_,_,_,ha,_⟩:=hT.parts hl
      obtain ⟨e',hd',_⟩:=ha n sz harr
      have hee : e' = et:=by
       have h:=hT t ty hl
       unfold tyOf at h
       split at h
       ·rename_i ti d' e1 e2
        split at h
        ·rename_i z e3
         rw [hu] at e2
         cases e2
         cases hq : Nat.beq z.cells.size ti.size with
         | false => rw [hq] at h; cases h
         | true =>
          rw [hq] at h
          simp only [cond_true,Option.some.injEq] at h
          subst h
          subst hd'
          simpa using hae
        ·cases h
       ·cases h
      subst hee
      obtain ⟨ti,d2,z2,hi,hu2,_,hsz,_,_,_,_,hag,_⟩:=hT.parts hle
      have hag:=hag hb.2
      cases ax with
      | agg cs =>
       cases ay with
       | int ik i =>
        obtain ⟨h0,hlt,v,hv,hK⟩:=hK
        rw [force_eq] at hK
        unfold RepM at hx' hy'
        obtain ⟨vs,hx',hvs⟩:=hx'
        obtain ⟨u,g1,g2⟩:=RepML.get _ _ _ _ hvs hv
        refine wp_pure h hd (v:=u) ?_ g2 hK
        have hs1 : ti.size = 1:=by rw [<- hsz,h1]
        have hna : (isAgg e').run P w = .ok false w:=by
         cases d2 with
         | struct fs => exact absurd rfl (hag.1 fs)
         | array n e => exact absurd rfl (hag.2 n e)
         | _ => simp [isAgg,run_underlying hu2]
        rw [hd'] at hu
        have g1' : (⟨vs⟩ : Array Value)[i.toNat]? = some u:=by simpa using g1
        simp [execOp,ho,hx',hy',Instr.index,asIntOf,run_underlying hu,h0,hlt,Go.sizeOf,typeInfo,hi,hs1,part,hna,Result.andThen,g1]
       | _ => exact hK.elim
      | _ => exact hK.elim
theorem op_indexU {t : TypeId} {x y : Operand} (ho : o.op = .index t x y) (hT : TOk P c.T) (h : Rel c N F M s a w) (hd : ∀ t,o.dst = some t -> t < N) (hx : ∀ t,x = .tmp t -> t < N) (hy : ∀ t,y = .tmp t -> t < N)
  (hK : aIndexU c.T t (ev c.gl s x) (ev c.gl s y) fun v => K (Ab.put o.dst v s)) : o.wpIn (Fw ro) 0 P a w (Post c N F M w K) Q:=by
 cases hxe : ev c.gl s x with
 | str b =>
  rw [hxe] at hK
  have hx':=h.ev x hx
  have hy':=h.ev y hy
  rw [hxe] at hx'
  generalize ev c.gl s y = ay at hy' hK
  unfold aIndexU at hK
  simp only at hK
  unfold aIndexS at hK
  cases hl : look c.T t with
  | none => rw [hl] at hK; exact hK.elim
  | some ty =>
   rw [hl] at hK
   simp only at hK
   cases hst : ty.st with
   | false => rw [hst] at hK; exact hK.elim
   | true =>
    rw [hst] at hK
    have hu : P.underlying t = some .string:=by
     have h:=hT t ty hl
     unfold tyOf at h
     split at h
     ·rename_i ti d' e1 e2
      split at h
      ·rename_i z e3
       cases hq : Nat.beq z.cells.size ti.size with
       | false => rw [hq] at h; cases h
       | true =>
        rw [hq] at h
        simp only [cond_true,Option.some.injEq] at h
        subst h
        simp only at hst
        split at hst
        ·exact e2
        ·cases hst
      ·cases h
     ·cases h
    cases ay with
    | int ik i =>
     obtain ⟨h0,ch,hc,hK⟩:=hK
     unfold RepM at hx' hy'
     refine wp_pure h hd (v:=.int .u8 ch.toNat) ?_ (by unfold RepM; rfl) hK
     simp [execOp,ho,hx',hy',Instr.index,asIntOf,run_underlying hu,h0,hc]
    | _ => exact hK.elim
 | _ =>
  refine op_index ho hT h hd hx hy ?_
  rw [hxe] at hK ⊢
  exact hK
theorem arrLay_at : ∀ (n sz o i : Nat) (q : Nat × Nat),(arrLay n sz o)[i]? = some q -> q = (o + i * sz,sz)
 | 0,_,_,_,_,h => by simp [arrLay] at h
 | n + 1,sz,o,0,q,h => by simp [arrLay] at h; rw [<- h]; simp
 | n + 1,sz,o,i + 1,q,h => by
   unfold arrLay at h
   have:=arrLay_at n sz (o + sz) i q (by simpa using h)
   rw [this,Nat.add_mul]
   congr 1
   omega
theorem fill_mono {p1 p2 : Nat -> Option (Nat × Nat)} (h : ∀ i q,p1 i = some q -> p2 i = some q) : ∀ (ps : List (Nat × Value)) (cur cur' : Array Value),Instr.fill p1 cur ps = some cur' -> Instr.fill p2 cur ps = some cur'
 | [],cur,cur',hf => by unfold Instr.fill at hf ⊢; exact hf
 | (i,v) :: ps,cur,cur',hf => by
   unfold Instr.fill at hf ⊢
   cases hp : p1 i with
   | none => rw [hp] at hf; simp at hf
   | some q =>
    rw [hp] at hf
    rw [h i q hp]
    simp only at hf ⊢
    split at hf
    ·cases hf
    ·rename_i hc
     rw [if_neg hc]
     exact fill_mono h ps _ _ hf
theorem op_build {t : TypeId} {ps : Array (Nat × Operand)} (ho : o.op = .build t ps) (hT : TOk P c.T) (h : Rel c N F M s a w) (hd : ∀ t,o.dst = some t -> t < N) (hx : ∀ p ∈ ps.toList,∀ t,p.2 = .tmp t -> t < N)
  (hK : match look c.T t with
  | some i => match layOf i with
   | [] => False
   | _ :: _ => match and i.fo (ones (cells i.zv)) with | true => fillA (layOf i) (evParts c.gl s ps.toList) (cells i.zv) fun cs => K (Ab.put o.dst (.agg cs) s) | false => False
  | none => False) : o.wpIn (Fw ro) 0 P a w (Post c N F M w K) Q:=by
 cases hl : look c.T t with
 | none => rw [hl] at hK; exact hK.elim
 | some i =>
  rw [hl] at hK
  simp only at hK
  obtain ⟨ti,d,z,hi,hu,hz,_,_,hzv,_,_,_,hlay,hne,harr,_,_,hfo,_⟩:=hT.parts hl
  cases hly0 : i.lay with
  | nil =>
   cases hly : layOf i with
   | nil => rw [hly] at hK; exact hK.elim
   | cons p l =>
    rw [hly] at hK
    simp only at hK
    cases hb : and i.fo (ones (cells i.zv)) with
    | false => rw [hb] at hK; exact hK.elim
    | true =>
     rw [hb] at hK
     simp only [Bool.and_eq_true] at hb
     have hr:=(cells_rep (w:=w) (F:=F) (M:=M) (by rw [<- hzv]; exact hb.2) (evOfV z)).1
     rw [hzv] at hK
     obtain ⟨cs',cur',k1,k2,k3⟩:=fill_struct (p :: l) ps.toList _ _ hx h hr hK
     refine wp_pure h hd (v:=.agg cur') ?_ (by unfold RepM; exact ⟨cur'.toList,rfl,k2⟩) k3
     unfold layOf at hly
     rw [hly0] at hly
     simp only at hly
     cases ha : i.arr with
     | none => rw [ha] at hly; cases hly
     | some q =>
      obtain ⟨n,sz⟩:=q
      cases sz with
      | zero => rw [ha] at hly; cases hly
      | succ sz =>
       rw [ha] at hly
       simp only at hly
       obtain ⟨e,rfl,he⟩:=harr n _ ha
       have hs : (Go.sizeOf e).run P w = .ok (sz + 1) w:=by
        unfold Program.cellsOf at he
        cases hq : P.info? e with
        | none => rw [hq] at he; simp at he
        | some te => rw [hq] at he; simp at he; simp [Go.sizeOf,typeInfo,hq,<- he]
       have k4:=fill_mono (p2:=fun i => some (i * (sz + 1),sz + 1)) (fun i q hq => by
        rw [<- hly] at hq
        have:=arrLay_at n (sz + 1) 0 i q hq
        rw [this,Nat.zero_add]) _ _ _ k1
       simp only [execOp,ho,Instr.build,zeroValue,typeInfo,Sem.run_bind,Result.andThen,Sem.run_pure]
       simp [hi,hz,run_underlying hu,hs,k4]
  | cons p l =>
   have hlo : layOf i = p :: l:=by unfold layOf; rw [hly0]
   have hly:=hly0
   rw [hlo] at hK
   simp only at hK
   cases hb : and i.fo (ones (cells i.zv)) with
   | false => rw [hb] at hK; exact hK.elim
   | true =>
    rw [hb] at hK
    simp only [Bool.and_eq_true] at hb
    obtain ⟨fs,rfl⟩:=hne (by rw [hly]; simp)
    have hr:=(cells_rep (w:=w) (F:=F) (M:=M) (by rw [<- hzv]; exact hb.2) (evOfV z)).1
    rw [hzv] at hK
    obtain ⟨cs',cur',k1,k2,k3⟩:=fill_struct (p :: l) ps.toList _ _ hx h hr hK
    refine wp_pure h hd (v:=.agg cur') ?_ (by unfold RepM; exact ⟨cur'.toList,rfl,k2⟩) k3
    have hpl:=run_places (P:=P) (w:=w) fs (hfo fs rfl hb.1)
    have hplace : (fun (i : Nat) => (p :: l)[i]?) = fun (i : Nat) => ((fs.toList.map fun f => (f.offset,P.cellsOf f.type)).toArray)[i]?:=by
     funext i
     rw [<- hly,hlay fs rfl]; simp
    rw [hplace] at k1
    have hp2 : (fun (i : Nat) => ((fs.toList.map fun f => (f.offset,P.cellsOf f.type)).toArray)[i]?) = fun (x : Nat) => Option.map (fun f => (f.offset,P.cellsOf f.type)) fs[x]?:=by
     funext x; simp
    rw [hp2] at k1
    have e2 : (ps.map fun (x : Nat × Operand) => (x.1,a.eval x.2)).toList = ps.toList.map fun p => (p.1,a.eval p.2):=by simp
    simp only [execOp,ho,Instr.build,zeroValue,typeInfo,Sem.run_bind,Result.andThen,Sem.run_pure]
    simp [hi,hz,run_underlying hu,hpl,k1]
theorem flat_set {sz : Nat} : ∀ (rows : List (List AV)) (i : Nat) (cs : List AV),RowsOk sz rows -> i < rows.length -> cs.length = sz ->
  (rows.set i cs).flatten = rows.flatten.take (i * sz) ++ cs ++ rows.flatten.drop (i * sz + sz)
 | [],i,cs,_,h,_ => by simp at h
 | r :: rs,0,cs,hok,_,hc => by
   have h0:=hok r (by simp)
   simp only [List.set_cons_zero,List.flatten_cons,Nat.zero_mul,List.take_zero,List.nil_append,Nat.zero_add]
   rw [<- h0,List.drop_left]
 | r :: rs,i + 1,cs,hok,h,hc => by
   have h0:=hok r (by simp)
   rw [List.set_cons_succ,List.flatten_cons,List.flatten_cons,flat_set rs i cs (fun q hq => hok q (by simp [hq])) (by simpa using h) hc]
   have e1 : (i + 1) * sz = r.length + i * sz:=by rw [h0,Nat.add_mul]; omega
   rw [e1,Nat.add_assoc,List.take_length_add_append,List.drop_length_add_append]
   simp [List.append_assoc]
theorem fill_rows {ks : List Nat} {sz : Nat} : ∀ (ps : List (Nat × Operand)) (rows : List (List AV)) (cur : Array Value),(∀ p ∈ ps,∀ t,p.2 = .tmp t -> t < N) -> Rel c N F M s a w ->
  (∀ k ∈ keysP (evParts c.gl s ps),k ∈ ks) -> RowsOk sz rows -> RepDL w (frzF ks s.hp M F) rows.flatten cur.toList -> (∀ x ∈ rows.flatten,one x = true) -> ∀ {K : List (List AV) -> Prop},fillR s.hp sz (evParts c.gl s ps) rows K ->
  ∃ rows' cur',Instr.fill (fun i => some (i * sz,sz)) cur (ps.map fun p => (p.1,a.eval p.2)) = some cur'∧RowsOk sz rows'∧rows'.length = rows.length∧RepDL w (frzF ks s.hp M F) rows'.flatten cur'.toList∧(∀ x ∈ rows'.flatten,one x = true)∧K rows'
 | [],rows,cur,_,h,_,hok,hr,h1,K,hK => ⟨rows,cur,rfl,hok,rfl,hr,h1,by unfold evParts fillR at hK; exact hK⟩
 | (i,x) :: ps,rows,cur,hx,h,hks,hok,hr,h1,K,hK => by
   unfold evParts fillR at hK
   have hv:=h.ev x (hx (i,x) (by simp))
   have hc:=cells_rep (toDs_ones _ hK) hv
   obtain ⟨ds,d1,d2,hK⟩:=toDs_sound h.toHR _ _ hc.1 hK
   rw [lenL_eq] at hK
   cases hb : and (Nat.beq ds.length sz) (Nat.ble (i + 1) rows.length) with
   | false => rw [hb] at hK; exact hK.elim
   | true =>
    rw [hb] at hK
    simp only [Bool.and_eq_true] at hb
    have b1:=Nat.eq_of_beq_eq_true hb.1
    have b2:=Nat.le_of_ble_eq_true hb.2
    have hks' : ∀ k ∈ keysL (cells (ev c.gl s x)),k ∈ ks:=fun k hk => hks k (by unfold evParts keysP; exact List.mem_append_left _ hk)
    have d1' : RepDL w (frzF ks s.hp M F) ds (a.eval x).cells.toList:=RepDL.mono (fun b hb => frzF_mono hks' hb) (fun _ _ => rfl) _ _ d1
    have hl1:=RepDL.len _ _ d1'
    have hl2:=RepDL.len _ _ hr
    have hfl:=flat_len rows hok
    have hbd : i * sz + sz <= rows.length * sz:=by
     have:=Nat.mul_le_mul_right sz (show i + 1 <= rows.length by omega)
     rwa [Nat.add_mul,Nat.one_mul] at this
    have esz : (a.eval x).cells.size = sz:=by simp at hl1; omega
    rw [hfl,Array.length_toList] at hl2
    have hfold:=fold_arr (i * sz) (a.eval x).cells cur (by omega)
    rw [esz] at hfold
    have hset:=flat_set rows i ds hok (by omega) b1
    have hr' : RepDL w (frzF ks s.hp M F) (rows.set i ds).flatten ((a.eval x).cells.zipIdx.foldl (fun cs (x : Value × Nat) => cs.setIfInBounds (i * sz + x.2) x.1) cur).toList:=by
     rw [hfold,hset]
     exact ((hr.take (i * sz)).app d1').app (hr.drop (i * sz + sz))
    obtain ⟨rows',cur',k1,k2,k3,k4,k5,k6⟩:=fill_rows ps (rows.set i ds) _ (fun p hp => hx p (by simp [hp])) h (fun k hk => hks k (by unfold evParts keysP; exact List.mem_append_right _ hk))
     (fun r hr => by
      rcases List.mem_or_eq_of_mem_set hr with hr | hr
      ·exact hok r hr
      ·rw [hr]; exact b1) hr' (fun y hy => by
      rw [hset,List.append_assoc,List.mem_append,List.mem_append] at hy
      rcases hy with hy | hy | hy
      ·exact h1 y (List.mem_of_mem_take hy)
      ·exact d2 y hy
      ·exact h1 y (List.mem_of_mem_drop hy)) hK
    refine ⟨rows',cur',?_,k2,by rw [k3]; simp,k4,k5,k6⟩
    rw [List.map_cons,Instr.fill]
    simp only
    have e2 : ¬ (i * sz + sz > cur.size):=by omega
    simp only [esz,ne_eq,not_true_eq_false,decide_false,Bool.false_or]
    rw [if_neg (by simpa using e2)]
    exact k1
theorem fill_own : ∀ (ps : List (Nat × Operand)) (cs : List AV) (cur : Array Value),(∀ p ∈ ps,∀ t,p.2 = .tmp t -> t < N) -> Rel c N F M s a w ->
  RepML w F M cs cur.toList -> ones cs = true -> ∀ {K : List AV -> Prop},fillO (evParts c.gl s ps) cs K ->
  ∃ cs' cur',Instr.fill (fun i => some (i * 1,1)) cur (ps.map fun p => (p.1,a.eval p.2)) = some cur'∧cs'.length = cs.length∧RepML w F M cs' cur'.toList∧ones cs' = true∧K cs'
 | [],cs,cur,_,h,hr,h1,K,hK => ⟨cs,cur,rfl,rfl,hr,h1,by unfold evParts fillO at hK; rw [forceL_eq] at hK; exact hK⟩
 | (i,x) :: ps,cs,cur,hx,h,hr,h1,K,hK => by
   unfold evParts fillO at hK
   rw [force_eq] at hK
   have hv:=h.ev x (hx (i,x) (by simp))
   generalize ev c.gl s x = ax at hv hK
   rw [lenL_eq] at hK
   cases hb : and (one ax) (Nat.ble (i + 1) cs.length) with
   | false => rw [hb] at hK; exact hK.elim
   | true =>
    rw [hb] at hK
    simp only [Bool.and_eq_true] at hb
    have b2:=Nat.le_of_ble_eq_true hb.2
    have hcx : cells ax = [ax]:=by cases ax <;> first | rfl | (simp [one] at hb)
    have hc:=cells_rep (av:=ax) (v:=a.eval x) (by rw [hcx]; simp only [ones,hb.1]; rfl) hv
    rw [hcx] at hc
    have hl1:=RepML.len _ _ hc.1
    have hl2:=RepML.len _ _ hr
    have esz : (a.eval x).cells.size = 1:=by simpa using hl1
    rw [Array.length_toList] at hl2
    have hfold:=fold_arr (i * 1) (a.eval x).cells cur (by omega)
    rw [esz] at hfold
    have hset : cs.set i ax = cs.take (i * 1) ++ [ax] ++ cs.drop (i * 1 + 1):=by
     rw [Nat.mul_one,List.set_eq_take_append_cons_drop,if_pos (by omega)]; simp
    have hr' : RepML w F M (cs.set i ax) ((a.eval x).cells.zipIdx.foldl (fun cs (x : Value × Nat) => cs.setIfInBounds (i * 1 + x.2) x.1) cur).toList:=by
     rw [hfold,hset]
     exact ((hr.take (i * 1)).app hc.1).app (hr.drop (i * 1 + 1))
    have h1' : ones (cs.set i ax) = true:=ones_all fun y hy => by
     rcases List.mem_or_eq_of_mem_set hy with hy | hy
     ·exact ones_mem h1 y hy
     ·rw [hy]; exact hb.1
    obtain ⟨cs',cur',k1,k2,k3,k4,k5⟩:=fill_own ps (cs.set i ax) _ (fun p hp => hx p (by simp [hp])) h hr' h1' hK
    refine ⟨cs',cur',?_,by rw [k2]; simp,k3,k4,k5⟩
    rw [List.map_cons,Instr.fill]
    simp only
    have e2 : ¬ (i * 1 + 1 > cur.size):=by omega
    simp only [esz,ne_eq,not_true_eq_false,decide_false,Bool.false_or]
    rw [if_neg (by simpa using e2)]
    exact k1
theorem op_buildSlice {t : TypeId} {n : Nat} {ps : Array (Nat × Operand)} (ho : o.op = .buildSlice t n ps) (hT : TOk P c.T) (h : Rel c N F M s a w) (hd : ∀ t,o.dst = some t -> t < N) (hx : ∀ p ∈ ps.toList,∀ t,p.2 = .tmp t -> t < N)
  (hK : aBuildSlice c.T t n (evParts c.gl s ps.toList) s fun v s' => K (Ab.put o.dst v s')) : o.wpIn (Fw ro) 0 P a w (Post c N F M w K) Q:=by
 unfold aBuildSlice at hK
 cases hsl : (look c.T t).bind fun i => i.sl with
 | none => rw [hsl] at hK; exact hK.elim
 | some et =>
  rw [hsl] at hK
  simp only at hK
  cases he : look c.T et with
  | none => rw [he] at hK; exact hK.elim
  | some e =>
   rw [he] at hK
   simp only at hK
   obtain ⟨et',ti,z,hu,hi,hz,hsz,hby,hzv,hzs⟩:=hT.elem (t:=t) (e:=e) (by rw [hsl]; exact he)
   have : et' = et:=by
    cases hl : look c.T t with
    | none => simp [hl] at hsl
    | some i =>
     obtain ⟨_,d,_,_,hu',_,_,_,_,hsl',_⟩:=hT.parts hl
     rw [hl] at hsl
     rw [hsl' et hsl] at hu'
     rw [hu'] at hu; cases hu; rfl
   subst this
   cases hesl : e.sl with
   | some est =>
    rw [hesl] at hK
    simp only at hK
    cases hev : e.zv with
    | nil =>
     rw [hev] at hK
     simp only at hK
     cases hb : Nat.ble n 65536 with
     | false => rw [hb] at hK; exact hK.elim
     | true =>
      rw [hb] at hK
      have b3:=Nat.le_of_ble_eq_true hb
      have hzn : z = .slice none 0 0:=ofV_nil (by rw [<- hzv,hev])
      have hs1 : e.sz = 1:=by rw [<- hzs,hzn]; rfl
      have hzc : z.cells = #[.slice none 0 0]:=by rw [hzn]; rfl
      obtain ⟨cs',cur',k1,k3,k4,k5,k6⟩:=fill_own ps.toList (List.replicate n .nil) (madeCells z.cells n) hx h
       (RepML_nils _ _ (by simp [size_madeCells]) (by rw [hzc]; exact made_nil)) (ones_nils _) hK
      have hlen : cs'.length = n:=by rw [k3]; simp
      have hcl : cur'.toList.length = n:=by have:=RepML.len _ _ k4; omega
      obtain ⟨M',g1,g2,g3⟩:=h.toHR.newOwn (cs:=cs') (vs:=cur'.toList) (cap:=n) (et:=et') (by rw [hlen,<- hcl,List.take_length]; exact k4) k5 (by omega) (by simp only [maxLen]; omega) hcl
      refine wp_next h hd g1 g2 (v:=.slice (some ⟨w.heap.size,0,none⟩) n n) ?_ ?_ k6
      ·have hs : (Go.sizeOf et').run P w = .ok e.sz w:=by simp [Go.sizeOf,typeInfo,hi,hsz]
       have hzr : (zeroValue et').run P w = .ok z w:=by simp [zeroValue,typeInfo,hi,hz]
       rw [hs1] at hs
       by_cases h0 : n = 0
       ·have hm0 : madeCells z.cells n = #[]:=by rw [h0]; simp [madeCells]
        rw [hm0] at k1
        subst h0
        simp at k1
        simp [execOp,ho,Instr.buildSlice,run_underlying hu,hs,k1,newRow,Array.range_zero']
       ·have k1':=k1
        unfold madeCells at k1'
        simp at k1'
        simp [execOp,ho,Instr.buildSlice,run_underlying hu,hs,h0,hzr,Nat.not_lt.2 (show n <= 16777216 by omega),k1',newRow]
      ·unfold RepM
       exact ⟨_,g3,.inl ⟨by simp,by simp⟩⟩
    | _ => rw [hev] at hK; exact hK.elim
   | none =>
   rw [hesl] at hK
   simp only at hK
   rw [hzv] at hK
   obtain ⟨row,r1,r2,r3,hK⟩:=zero_row h.toHR hK
   rw [lenL_eq] at hK
   cases hb : and (and (Nat.ble 1 e.sz) (Nat.beq row.length e.sz)) (Nat.ble (n * e.sz) 65536) with
   | false => rw [hb] at hK; exact hK.elim
   | true =>
    rw [hb] at hK
    simp only [Bool.and_eq_true] at hb
    have b1:=Nat.le_of_ble_eq_true hb.1.1
    have b2:=Nat.eq_of_beq_eq_true hb.1.2
    have b3:=Nat.le_of_ble_eq_true hb.2
    simp only at hK
    obtain ⟨f1,f2⟩:=h.toHR.freeze (keysP (evParts c.gl s ps.toList))
    have hrep:=repl_rep r1 b2 (by omega) n
    have hrep':=RepDL.mono f2.foot f2.cell _ _ hrep
    obtain ⟨rows',cur',k1,k2,k3,k4,k5,k6⟩:=fill_rows (ks:=keysP (evParts c.gl s ps.toList)) (sz:=e.sz) ps.toList (List.replicate n row) (madeCells z.cells (n * e.sz)) hx h (fun k hk => hk)
     (fun q hq => by rw [List.eq_of_mem_replicate hq]; exact b2) hrep' (fun x hx => by
      rw [List.mem_flatten] at hx
      obtain ⟨l,hl,hx⟩:=hx
      rw [List.eq_of_mem_replicate hl] at hx
      exact r2 x hx) hK
    have hlen : rows'.length = n:=by rw [k3]; simp
    have hcl : cur'.toList.length = n * e.sz:=by rw [RepDL.len _ _ k4,flat_len rows' k2,hlen]
    have hnm : n <= maxLen:=by
     have : n <= n * e.sz:=Nat.le_mul_of_pos_right _ (by omega)
     simp only [maxLen]; omega
    obtain ⟨M',g1,g2,g3⟩:=f1.newArr (rows:=rows') (vs:=cur'.toList) (sz:=e.sz) (cap:=n) (et:=et') (by rw [hlen,<- hcl,List.take_length]; exact k4) k5 k2 (by omega) (by omega) hnm hcl
    refine wp_next h hd g1 (f2.trans g2) (v:=.slice (some ⟨w.heap.size,0,none⟩) n n) ?_ ?_ k6
    ·have hs : (Go.sizeOf et').run P w = .ok e.sz w:=by simp [Go.sizeOf,typeInfo,hi,hsz]
     have hzr : (zeroValue et').run P w = .ok z w:=by simp [zeroValue,typeInfo,hi,hz]
     have hnot : ¬ (n * e.sz > 2 ^ 24):=by omega
     have e2 : (ps.map fun (x : Nat × Operand) => (x.1,a.eval x.2)).toList = ps.toList.map fun p => (p.1,a.eval p.2):=by simp
     have hmade : (if n * e.sz = 0 then (madeCells #[] (n * e.sz)) else madeCells z.cells (n * e.sz)) = madeCells z.cells (n * e.sz):=by
      split
      ·rename_i h0; rw [h0]; simp [madeCells]
      ·rfl
     by_cases h0 : n * e.sz = 0
     ·have hm0 : madeCells z.cells (n * e.sz) = #[]:=by rw [h0]; simp [madeCells]
      rw [hm0] at k1
      have hn0 : n = 0:=by
       rcases Nat.mul_eq_zero.1 h0 with h | h
       ·exact h
       ·omega
      subst hn0
      simp [execOp,ho,Instr.buildSlice,run_underlying hu,hs,k1,newRow,Array.range_zero']
     ·have k1':=k1
      unfold madeCells at k1'
      simp [execOp,ho,Instr.buildSlice,run_underlying hu,hs,h0,hzr,Nat.not_lt.2 (show n * e.sz <= 16777216 by omega),k1',newRow]
    ·unfold RepM
     exact ⟨_,g3,.inl ⟨by simp,by simp⟩⟩
end
end Ab
end
section
namespace Ab
open Go Go.RowKit
section
variable {c : Ctx} {F : Foot} {M : Nat -> Option MB} {hp : Nat -> Option Blk} {nx : Nat} {w w' : World}
def frzG (ks : List Nat) (hp : Nat -> Option Blk) (M : Nat -> Option MB) (F : Foot) : Foot:=fun b =>
 F b ∨ ∃ k m,k ∈ ks∧((∃ sz rows lv,hp k = some (.arr sz rows lv)) ∨ ∃ et cs,hp k = some (.own et cs))∧M k = some m∧m.b = b
theorem frzW_at (ks : List Nat) (hp : Nat -> Option Blk) (j : Nat) : frzW ks hp j = if j ∈ ks then frzC (hp j) else hp j:=by
 cases ks with
 | nil => simp [frzW]
 | cons k ks =>
  simp only [frzW]
  by_cases h : j ∈ k :: ks
  ·rw [(memN_iff j _).2 h]; simp [h]
  ·have : memN j (k :: ks) = false:=by
    cases hm : memN j (k :: ks)
    ·rfl
    ·exact absurd ((memN_iff j _).1 hm) h
   rw [this]; simp [h]
theorem frzC_none {b : Option Blk} (h : frzC b ≠ none) : b ≠ none:=by
 cases b with
 | none => exact h
 | some b => simp
theorem HR.freezeW (h : HR c F M hp nx w) (ks : List Nat) : HR c (frzG ks hp M F) M (frzW ks hp) nx w∧Tr F M w (frzG ks hp M F) M w:=by
 have t : Tr F M w (frzG ks hp M F) M w:=⟨fun b hb => .inl hb,fun _ _ => rfl,fun _ _ h => h,Nat.le_refl _,fun b hb => by
  rcases hb with hb | ⟨k,m,_,_,h1,h2⟩
  ·exact .inl hb
  ·exact .inr (.inl ⟨k,m,h1,h2⟩),fun k m h => .inl ⟨k,m,h,rfl⟩,fun _ _ _ => rfl⟩
 have un : ∀ j,frzW ks hp j ≠ none -> hp j ≠ none:=fun j hj => by
  rw [frzW_at] at hj
  split at hj
  ·exact frzC_none hj
  ·exact hj
 have nn : ∀ k,((∃ sz rows lv,hp k = some (.arr sz rows lv)) ∨ ∃ et cs,hp k = some (.own et cs)) -> hp k ≠ none:=fun k hk => by
  rcases hk with ⟨sz,rows,lv,e⟩ | ⟨et,cs,e⟩ <;> rw [e] <;> simp
 refine ⟨⟨fun j cs hj => ?_,fun j sz rows lv hj => ?_,fun j et cs hj => ?_,fun j j' mj mj' hj hj' h1 h2 e => h.inj j j' mj mj' (un j hj) (un j' hj') h1 h2 e,fun j hj => ⟨(h.dom j hj).1,?_⟩,fun b hb => ?_,fun b hb => ?_,fun g av hg => RepM.mono t.foot t.cell (fun _ _ h => h) _ _ (h.gl g av hg),h.bel,h.ml,h.al.tr t,h.base.tr t,fun j hj => (by
  rw [frzW_at] at hj
  split at hj
  ·cases hb : hp j with
   | none => rw [hb] at hj; cases hj
   | some b => rw [hb] at hj; cases b <;> first | (cases hj; done) | exact h.res j hb
  ·exact h.res j hj),fun j es hj => (by
  have hj' : hp j = some (.mp es):=by
   rw [frzW_at] at hj
   split at hj
   ·unfold frzC at hj
    split at hj
    ·cases hj
    ·unfold frzB at hj; split at hj <;> simp_all
   ·exact hj
  obtain ⟨m,h1,h2,h3,h4⟩:=h.mp j es hj'
  refine ⟨m,h1,h2,fun hf => ?_,h4.keep rfl⟩
  rcases hf with hf | ⟨k,mk,_,hk,hmk,e⟩
  ·exact h3 hf
  ·have:=h.inj k j mk m (nn k hk) (by rw [hj']; simp) hmk h1 e
   subst this
   rcases hk with ⟨sz,rows,lv,e⟩ | ⟨et,cs,e⟩ <;> rw [hj'] at e <;> cases e)⟩,t⟩
 ·have hj' : hp j = some (.box cs):=by
   rw [frzW_at] at hj
   split at hj
   ·unfold frzC at hj
    split at hj
    ·cases hj
    ·unfold frzB at hj; split at hj <;> simp_all
   ·exact hj
  obtain ⟨m,h1,h2,h3,h4,h5,h6⟩:=h.box j cs hj'
  refine ⟨m,h1,h2,fun hf => ?_,h4,h5,RepMC.keep t rfl cs 0 h6⟩
  rcases hf with hf | ⟨k,mk,_,hk,hmk,e⟩
  ·exact h3 hf
  ·have:=h.inj k j mk m (nn k hk) (by rw [hj']; simp) hmk h1 e
   subst this
   rcases hk with ⟨sz,rows,lv,e⟩ | ⟨et,cs,e⟩ <;> rw [hj'] at e <;> cases e
 ·by_cases hm : j ∈ ks
  ·rw [frzW_at,if_pos hm] at hj
   cases hb : hp j with
   | none => rw [hb] at hj; simp [frzC,frzB] at hj
   | some b =>
    cases b with
    | box cs => rw [hb] at hj; simp [frzC,frzB] at hj
    | own et cs => rw [hb] at hj; simp [frzC] at hj
    | res => rw [hb] at hj; simp [frzC,frzB] at hj
    | mp _ => rw [hb] at hj; simp [frzC,frzB] at hj
    | arr sz' rows' lv' =>
       rw [hb] at hj; simp [frzC,frzB] at hj
       obtain ⟨rfl,rfl,rfl⟩:=hj
       obtain ⟨m,h1,h0,h2,h3,h4,h5,h6,h7,h8⟩:=h.arr j _ rows' lv' hb
       exact ⟨m,h1,h0,h2,fun h => (by cases h),fun _ => .inr ⟨j,m,hm,.inl ⟨_,rows',lv',hb⟩,h1,rfl⟩,h5,h6,h7,RepR.keep t.foot t.cell rfl rows' 0 h8⟩
  ·rw [frzW_at,if_neg hm] at hj
   obtain ⟨m,h1,h0,h2,h3,h4,h5,h6,h7,h8⟩:=h.arr j sz rows lv hj
   refine ⟨m,h1,h0,h2,fun hlv hf => ?_,fun hlv => .inl (h4 hlv),h5,h6,h7,RepR.keep t.foot t.cell rfl rows 0 h8⟩
   rcases hf with hf | ⟨k,mk,hk',hk,hmk,e⟩
   ·exact h3 hlv hf
   ·have:=h.inj k j mk m (nn k hk) (by rw [hj]; simp) hmk h1 e
    subst this
    exact hm hk'
 ·by_cases hm : j ∈ ks
  ·exfalso
   rw [frzW_at,if_pos hm] at hj
   cases hb : hp j with
   | none => rw [hb] at hj; simp [frzC,frzB] at hj
   | some b => cases b <;> (rw [hb] at hj; simp [frzC,frzB] at hj)
  ·rw [frzW_at,if_neg hm] at hj
   obtain ⟨m,h1,h0,h2,h3,h4,h5,h6⟩:=h.own j et cs hj
   refine ⟨m,h1,h0,h2,fun hf => ?_,h4,h5,RepMC.keep t rfl cs 0 h6⟩
   rcases hf with hf | ⟨k,mk,hk',hk,hmk,e⟩
   ·exact h3 hf
   ·have:=h.inj k j mk m (nn k hk) (by rw [hj]; simp) hmk h1 e
    subst this
    exact hm hk'
 ·rw [frzW_at,(h.dom j hj).2]; simp [frzC,frzB]
 ·rcases hb with hb | ⟨k,mk,hk',hk,hmk,e⟩
  ·exact h.fl b hb
  ·rw [<- e]; exact (h.owned (nn k hk) hmk).2
 ·rcases hb with hb | ⟨k,mk,hk',hk,hmk,e⟩
  ·exact h.hist b hb
  ·right; rw [<- e]; exact (h.owned (nn k hk) hmk).1
theorem frzG_mono {ks ks' : List Nat} (h : ∀ k ∈ ks,k ∈ ks') {b : Nat} (hb : frzG ks hp M F b) : frzG ks' hp M F b:=by
 rcases hb with hb | ⟨k,m,h1,h2⟩
 ·exact .inl hb
 ·exact .inr ⟨k,m,h k h1,h2⟩
theorem frzF_G {ks ks' : List Nat} (h : ∀ k ∈ ks,k ∈ ks') {b : Nat} (hb : frzF ks hp M F b) : frzG ks' hp M F b:=by
 rcases hb with hb | ⟨k,m,sz,rows,lv,h1,h2,h3,h4⟩
 ·exact .inl hb
 ·exact .inr ⟨k,m,h k h1,.inl ⟨sz,rows,lv,h2⟩,h3,h4⟩
theorem RepR_ones {b : Nat} : ∀ (ds : List AV) (vs : List Value) (o : Nat),RepDL w F ds vs -> (∀ d ∈ ds,one d = true) -> (∀ j v,vs[j]? = some v -> w.cell? ⟨b,o + j,none⟩ = some v) -> RepR w F b 1 (ds.map fun d => [d]) o
 | [],vs,o,_,_,_ => by simp [RepR]
 | d :: ds,vs,o,h,h1,hc => by
   unfold RepDL at h
   obtain ⟨v,vs',rfl,h2,h3⟩:=h
   rw [List.map_cons]
   unfold RepR
   refine ⟨rfl,?_,RepR_ones ds vs' (o + 1) h3 (fun x hx => h1 x (by simp [hx])) fun j u hu => ?_⟩
   ·unfold RepC
    refine ⟨⟨h1 d (by simp),v,by simpa using hc 0 v rfl,h2⟩,?_⟩
    unfold RepC; trivial
   ·have:=hc (j + 1) u (by simpa using hu)
    rwa [show o + 1 + j = o + (j + 1) by omega]
theorem toW_sound (h : HR c F M hp nx w) {av : AV} {v : Value} (hv : RepM w F M av v) {K : AV -> Prop} (hK : toW hp av K) :
  ∃ d,RepD w (frzG (keysW hp av) hp M F) d v∧K d:=by
 have gen : toDA hp av K -> keysW hp av = keysA av -> ∃ d,RepD w (frzG (keysW hp av) hp M F) d v∧K d:=by
  intro hK he
  obtain ⟨d,h1,h2⟩:=toDA_sound h hv hK
  exact ⟨d,RepD.mono (fun b hb => frzF_G (fun k hk => by rw [he]; exact hk) hb) (fun _ _ => rfl) _ _ h1,h2⟩
 cases av with
 | ms k off len =>
  simp only [toW] at hK
  cases hb : hp k with
  | none => rw [hb] at hK; simp only [toD,hb] at hK
  | some blk =>
   rw [hb] at hK
   cases blk with
   | own et cs =>
    simp only at hK
    obtain ⟨hl,hK⟩:=hK
    obtain ⟨m,f1,f2,_,_,_,f6,f7⟩:=h.own k et cs hb
    have hs:=RepMC.sub cs 0 off len f7
    rw [Nat.zero_add] at hs
    obtain ⟨vs,g1,g2,g3,g4⟩:=RepMC.vals _ _ hs
    obtain ⟨ds,d1,d2,hK⟩:=toDs_sound h _ _ g2 hK
    have hlen : ((cs.drop off).take len).length = len:=by simp; omega
    have hdl : ds.length = len:=by have:=RepDL.len _ _ d1; omega
    have hkw : keysW hp (.ms k off len) = k :: keysL ((cs.drop off).take len):=by simp only [keysW,hb]
    refine ⟨_,?_,hK⟩
    rw [hkw]
    have hF : frzG (k :: keysL ((cs.drop off).take len)) hp M F m.b:=.inr ⟨k,m,by simp,.inr ⟨et,cs,hb⟩,f1,rfl⟩
    have d1' : RepDL w (frzG (k :: keysL ((cs.drop off).take len)) hp M F) ds vs:=RepDL.mono (fun b hb => frzF_G (fun j hj => by simp [hj]) hb) (fun _ _ => rfl) _ _ d1
    unfold RepM at hv
    obtain ⟨m',e1,e2⟩:=hv
    rw [f1] at e1; cases e1
    unfold RepD
    rw [List.length_map,hdl]
    rcases e2 with ⟨e2,e3⟩ | ⟨rfl,_,p,cp,e4,e5⟩
    ·refine ⟨_,_,e2,by omega,by omega,.inr ⟨m.b,off * m.sz,1,rfl,hF,?_⟩⟩
     rw [f2.2,Nat.mul_one]
     exact RepR_ones ds vs off d1' d2 g4
    ·refine ⟨p,cp,e4,Nat.zero_le _,e5,.inl ?_⟩
     have : ds = []:=List.eq_nil_of_length_eq_zero hdl
     rw [this]; rfl
   | _ => exact gen hK (by simp only [keysW,hb]; rfl)
 | agg cs => exact gen hK rfl
 | yl l => exact gen hK rfl
 | lit l => exact gen hK rfl
 | mv l => exact gen hK rfl
 | tup cs => exact gen hK rfl
 | int k n => exact gen hK rfl
 | bool k => exact gen hK rfl
 | str k => exact gen hK rfl
 | sl k => exact gen hK rfl
 | nil => exact gen hK rfl
 | bp k n => exact gen hK rfl
 | ap k n o => exact gen hK rfl
 | er k n => exact gen hK rfl
 | fn k n => exact gen hK rfl
 | undef => exact gen hK rfl
theorem toWs_sound (h : HR c F M hp nx w) : ∀ (l : List AV) (vs : List Value),RepML w F M l vs -> ∀ {K : List AV -> Prop},toWs hp l K ->
  ∃ ds,RepDL w (frzG (keysWs hp l) hp M F) ds vs∧K ds
 | [],vs,hv,K,hK => ⟨[],by unfold RepML at hv; unfold RepDL; exact hv,hK⟩
 | a :: l,vs,hv,K,hK => by
   unfold RepML at hv
   obtain ⟨v,vs',rfl,h1,h2⟩:=hv
   unfold toWs at hK
   obtain ⟨d,h3,hK⟩:=toW_sound h h1 hK
   obtain ⟨ds,h5,hK⟩:=toWs_sound h l vs' h2 hK
   refine ⟨d :: ds,?_,hK⟩
   unfold RepDL
   refine ⟨v,vs',rfl,RepD.mono (fun b hb => frzG_mono (fun k hk => ?_) hb) (fun _ _ => rfl) _ _ h3,RepDL.mono (fun b hb => frzG_mono (fun k hk => ?_) hb) (fun _ _ => rfl) _ _ h5⟩
   ·simp [keysWs,hk]
   ·simp [keysWs,hk]
def frzP (hp : Nat -> Option Blk) (M : Nat -> Option MB) (F : Foot) : Foot:=fun b => F b ∨ ∃ k m,hp k ≠ none∧M k = some m∧m.b = b
theorem frzF_P {ks : List Nat} {b : Nat} (hb : frzF ks hp M F b) : frzP hp M F b:=by
 rcases hb with hb | ⟨k,m,sz,rows,lv,h1,h2,h3,h4⟩
 ·exact .inl hb
 ·exact .inr ⟨k,m,by rw [h2]; simp,h3,h4⟩
theorem frzP_lt (h : HR c F M hp nx w) {b : Nat} (hb : frzP hp M F b) : b < w.heap.size:=by
 rcases hb with hb | ⟨k,m,h1,h2,h3⟩
 ·exact h.fl b hb
 ·exact h3 ▸ (h.owned h1 h2).2
theorem toD_none {hp : Nat -> Option Blk} {v : AV} {K : AV -> Prop} (h : toD (fun _ => none) v K) : toD hp v K:=by
 cases v with
 | ms k off n => exact h.elim
 | _ => exact h
theorem toDs_none {hp : Nat -> Option Blk} : ∀ {l : List AV} {K : List AV -> Prop},toDs (fun _ => none) l K -> toDs hp l K
 | [],_,h => h
 | v :: l,K,h => by
   unfold toDs at h ⊢
   have:=toD_none (hp:=hp) h
   revert this
   cases v <;> first | exact fun h => toDs_none (hp:=hp) h | exact fun h => h.elim | (intro h2; exact h.elim)
theorem toP_sound (h : HR c F M hp nx w) {av : AV} {v : Value} (hv : RepM w F M av v) {K : AV -> Prop} (hK : toP hp av K) :
  ∃ d,RepD w (frzP hp M F) d v∧K d:=by
 have gen : toDA hp av K -> ∃ d,RepD w (frzP hp M F) d v∧K d:=by
  intro hK
  obtain ⟨d,h1,h2⟩:=toDA_sound h hv hK
  exact ⟨d,RepD.mono (fun b hb => frzF_P hb) (fun _ _ => rfl) _ _ h1,h2⟩
 cases av with
 | ms k off len =>
  simp only [toP] at hK
  cases hb : hp k with
  | none => rw [hb] at hK; simp only [toD,hb] at hK
  | some blk =>
   rw [hb] at hK
   cases blk with
   | box cs =>
    simp only at hK
    obtain ⟨⟨hcap,hl⟩,hK⟩:=hK
    have hcap:=Nat.le_of_ble_eq_true hcap
    obtain ⟨m,f1,_,_,_,f2,f7⟩:=h.box k cs hb
    have hs:=RepMC.sub cs 0 off len f7
    rw [Nat.zero_add] at hs
    obtain ⟨vs,g1,g2,g3,g4⟩:=RepMC.vals _ _ hs
    obtain ⟨ds,d1,d2,hK⟩:=toDs_sound h _ _ g2 (toDs_none hK)
    have hlen : ((cs.drop off).take len).length = len:=by simp; omega
    have hdl : ds.length = len:=by have:=RepDL.len _ _ d1; omega
    refine ⟨_,?_,hK⟩
    have hF : frzP hp M F m.b:=.inr ⟨k,m,by rw [hb]; simp,f1,rfl⟩
    have d1' : RepDL w (frzP hp M F) ds vs:=RepDL.mono (fun b hb => frzF_P hb) (fun _ _ => rfl) _ _ d1
    unfold RepM at hv
    obtain ⟨m',e1,e2⟩:=hv
    rw [f1] at e1; cases e1
    have hmax : m.cap <= maxLen:=by rw [<- f2.2]; exact Nat.le_trans hcap (by decide)
    unfold RepD
    rw [List.length_map,hdl]
    rcases e2 with ⟨e2,e3⟩ | ⟨rfl,_,p,cp,e4,e5⟩
    ·refine ⟨_,_,e2,by omega,by omega,.inr ⟨m.b,off * m.sz,1,rfl,hF,?_⟩⟩
     rw [f2.1,Nat.mul_one]
     exact RepR_ones ds vs off d1' d2 g4
    ·refine ⟨p,cp,e4,Nat.zero_le _,e5,.inl ?_⟩
     have : ds = []:=List.eq_nil_of_length_eq_zero hdl
     rw [this]; rfl
   | _ => exact gen hK
 | _ => exact gen hK
theorem toPs_sound (h : HR c F M hp nx w) : ∀ (l : List AV) (vs : List Value),RepML w F M l vs -> ∀ {K : List AV -> Prop},toPs hp l K ->
  ∃ ds,RepDL w (frzP hp M F) ds vs∧K ds
 | [],vs,hv,K,hK => ⟨[],by unfold RepML at hv; unfold RepDL; exact hv,hK⟩
 | a :: l,vs,hv,K,hK => by
   unfold RepML at hv
   obtain ⟨v,vs',rfl,h1,h2⟩:=hv
   unfold toPs at hK
   obtain ⟨d,h3,hK⟩:=toP_sound h h1 hK
   obtain ⟨ds,h5,hK⟩:=toPs_sound h l vs' h2 hK
   refine ⟨d :: ds,?_,hK⟩
   unfold RepDL
   exact ⟨v,vs',rfl,h3,h5⟩
theorem toWR_sound (h : HR c F M hp nx w) {av : AV} {v : Value} (hv : RepM w F M av v) {K : AV -> Prop} (hK : toWR hp av K) :
  ∃ d,RepD w (frzG (keysWR hp av) hp M F) d v∧K d:=by
 cases av with
 | tup cs =>
  unfold RepM at hv
  obtain ⟨vs,rfl,h2⟩:=hv
  obtain ⟨ds,h3,h4⟩:=toWs_sound h cs vs h2 hK
  exact ⟨.tup ds,by unfold RepD; exact ⟨vs,rfl,h3⟩,h4⟩
 | _ => exact toW_sound h hv hK
end
end Ab
end
