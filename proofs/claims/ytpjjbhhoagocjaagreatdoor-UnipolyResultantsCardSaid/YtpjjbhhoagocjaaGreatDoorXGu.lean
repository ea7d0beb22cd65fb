import Derived.Test.YtpjjbhhoagocjaaGreatDoorXGa
import Derived.ChangeShapes
import Derived.ChangeReads
import Derived.ChangeArms
import Derived.ChangeOld
import Derived.Below
import Derived.ChangeSame
import Derived.WideShapes
import Derived.Test.YtpjjbhhoagocjaaGreatDoorXBase
section
open Go Go.WideShapes Go.RowKit
namespace Ab
def okFs (ok : TypeId -> Bool) (P : Program) : Nat -> Nat -> List Field -> Bool
 | i,n,[] => i == n
 | i,n,f :: fs => (f.offset == i) && (ok f.type && okFs ok P (i + P.cellsOf f.type) n fs)
def okT (P : Program) : Nat -> TypeId -> Bool
 | 0,_ => false
 | k + 1,t => match P.underlying t with
  | some .bool => true
  | some (.int _) => true
  | some .string => true
  | some (.slice e) => (P.cellsOf e != 0) && okT P k e
  | some (.struct fs) => okFs (okT P k) P 0 (P.cellsOf t) fs.toList
  | _ => false
def ShpFs (S : TypeId -> List AV -> Prop) (P : Program) : List Field -> List AV -> Prop
 | [],avs => avs = []
 | f :: fs,avs => ∃ a b,avs = a ++ b∧S f.type a∧ShpFs S P fs b
def Shp (P : Program) : Nat -> TypeId -> List AV -> Prop
 | 0,_,_ => False
 | k + 1,t,avs => match P.underlying t with
  | some .bool => ∃ b,avs = [.bool b]
  | some (.int κ) => ∃ n,avs = [.int κ n]∧(Lit.int κ n).wf = true
  | some .string => ∃ b,avs = [.str b]
  | some (.slice e) => ∃ rows,avs = [.sl rows]∧rows.length <= maxLen∧∀ r ∈ rows,Shp P k e r
  | some (.struct fs) => ShpFs (Shp P k) P fs.toList avs
  | _ => False
section
variable {w : World} {F : Foot}
theorem repDL_len : ∀ {a : List AV} {xs : List Value},RepDL w F a xs -> a.length = xs.length
 | [],xs,h => by unfold RepDL at h; rw [h]; rfl
 | c :: cs,xs,h => by
  unfold RepDL at h
  obtain ⟨v,vs,rfl,_,h⟩:=h
  rw [List.length_cons,List.length_cons,repDL_len h]
theorem repDL_app : ∀ {a b : List AV} {xs ys : List Value},RepDL w F a xs -> RepDL w F b ys -> RepDL w F (a ++ b) (xs ++ ys)
 | [],b,xs,ys,h,h2 => by unfold RepDL at h; subst h; exact h2
 | c :: cs,b,xs,ys,h,h2 => by
  unfold RepDL at h
  obtain ⟨v,vs,rfl,hv,h⟩:=h
  show RepDL w F (c :: (cs ++ b)) (v :: (vs ++ ys))
  unfold RepDL
  exact ⟨v,_,rfl,hv,repDL_app h h2⟩
theorem repC_of {b : Nat} : ∀ {r : List AV} {cs : List Value} {o : Nat},RepDL w F r cs -> (∀ a ∈ r,one a = true) -> (∀ i v,cs[i]? = some v -> w.cell? ⟨b,o + i,none⟩ = some v) -> RepC w F b r o
 | [],cs,o,_,_,_ => by unfold RepC; trivial
 | c :: r,cs,o,h,ho,hc => by
  unfold RepDL at h
  obtain ⟨v,vs,rfl,hv,h⟩:=h
  unfold RepC
  refine ⟨⟨ho c (by simp),v,by have:=hc 0 v rfl; rwa [Nat.add_zero] at this,hv⟩,?_⟩
  refine repC_of h (fun a ha => ho a (by simp [ha])) (fun i u hu => ?_)
  have:=hc (i + 1) u hu
  rwa [show o + (i + 1) = o + 1 + i by omega] at this
variable {H : Type} {enc : TypeId × Value -> H} {P : Program} {spare : Nat -> Bool} {held : Bool}
theorem rep_fields {k n : Nat} (ih : ∀ t,okT P k t = true -> ∀ cs x,DataW.trod enc P w 0 spare held n t cs = some x -> ∃ avs,Shp P k t avs∧RepDL w F avs cs∧∀ a ∈ avs,one a = true) (cs : List Value) (N : Nat) (hN : cs.length = N) :
  ∀ (fs : List Field) (i : Nat),okFs (okT P k) P i N fs = true -> (∀ f ∈ fs,∃ x,DataW.trod enc P w 0 spare held n f.type ((cs.drop f.offset).take (P.cellsOf f.type)) = some x) ->
   ∃ avs,ShpFs (Shp P k) P fs avs∧RepDL w F avs (cs.drop i)∧∀ a ∈ avs,one a = true
 | [],i,h,_ => by
  simp only [okFs,beq_iff_eq] at h
  refine ⟨[],rfl,?_,by simp⟩
  unfold RepDL
  exact List.drop_eq_nil_of_le (by omega)
 | f :: fs,i,h,hf => by
  simp only [okFs,Bool.and_eq_true,beq_iff_eq] at h
  obtain ⟨h1,h2,h3⟩:=h
  obtain ⟨x,hx⟩:=hf f (by simp)
  rw [h1] at hx
  obtain ⟨a,a1,a2,a3⟩:=ih f.type h2 _ x hx
  obtain ⟨b,b1,b2,b3⟩:=rep_fields ih cs N hN fs (i + P.cellsOf f.type) h3 (fun g hg => hf g (by simp [hg]))
  refine ⟨a ++ b,⟨a,b,rfl,a1,b1⟩,?_,?_⟩
  ·have e : cs.drop i = (cs.drop i).take (P.cellsOf f.type) ++ cs.drop (i + P.cellsOf f.type):=by
    rw [<- List.drop_drop,List.take_append_drop]
   rw [e]
   exact repDL_app a2 b2
  ·intro c hc
   rcases List.mem_append.1 hc with hc | hc
   ·exact a3 c hc
   ·exact b3 c hc
theorem rep_rows {k n : Nat} {e : TypeId} (h0 : okT P k e = true) (ih : ∀ t,okT P k t = true -> ∀ cs x,DataW.trod enc P w 0 spare held n t cs = some x -> ∃ avs,Shp P k t avs∧RepDL w F avs cs∧∀ a ∈ avs,one a = true) {a : Addr} {len : Nat}
  (hel : ∀ i,i < len -> ∃ x cs,w.cells? 0 (a.add (i * P.cellsOf e)) (P.cellsOf e) = some cs∧DataW.trod enc P w 0 spare held n e cs = some x) :
  ∀ m j,j + m = len -> ∃ rows : List (List AV),rows.length = m∧(∀ r ∈ rows,Shp P k e r)∧RepR w F a.block (P.cellsOf e) rows (a.off + j * P.cellsOf e)
 | 0,j,_ => ⟨[],rfl,by simp,by unfold RepR; trivial⟩
 | m + 1,j,hj => by
  obtain ⟨x,cs,hc,hx⟩:=hel j (by omega)
  obtain ⟨r,r1,r2,r3⟩:=ih e h0 cs x hx
  obtain ⟨rows,s1,s2,s3⟩:=rep_rows h0 ih hel m (j + 1) (by omega)
  refine ⟨r :: rows,by rw [List.length_cons,s1],?_,?_⟩
  ·intro q hq
   rcases List.mem_cons.1 hq with rfl | hq
   ·exact r1
   ·exact s2 q hq
  ·unfold World.cells? at hc
   rw [if_pos (Nat.zero_le _)] at hc
   have hl : cs.length = P.cellsOf e:=by simpa using mapM_some_length hc
   unfold RepR
   refine ⟨(repDL_len r2).trans hl,repC_of r2 r3 (fun i v hv => ?_),?_⟩
   ·have hi : i < P.cellsOf e:=by
     have:=(List.getElem?_eq_some_iff.1 hv).1
     omega
    have g:=mapM_some_get hc i i (by simp [hi])
    rw [hv] at g
    have ea : ∀ (b : Addr) (q : Nat),(b.add q).block = b.block∧(b.add q).off = b.off + q:=by
     intro b q
     unfold Addr.add
     split
     ·rename_i hq
      subst hq
      exact ⟨rfl,rfl⟩
     ·exact ⟨rfl,rfl⟩
    obtain ⟨e1,e2⟩:=ea (a.add (j * P.cellsOf e)) i
    obtain ⟨e3,e4⟩:=ea a (j * P.cellsOf e)
    unfold World.cell? at g ⊢
    rw [e1,e3] at g
    simp only at g ⊢
    split at g
    ·split at g
     ·cases g
     ·rw [e2,e4] at g
      simpa using g
    ·cases g
   ·have e5 : a.off + j * P.cellsOf e + P.cellsOf e = a.off + (j + 1) * P.cellsOf e:=by rw [Nat.add_mul,Nat.one_mul]; omega
    rw [e5]
    exact s3
theorem rep_of : ∀ (k n : Nat) (t : TypeId),okT P k t = true -> ∀ cs x,DataW.trod enc P w 0 spare held n t cs = some x -> ∃ avs,Shp P k t avs∧RepDL w (fun b => b < w.heap.size) avs cs∧∀ a ∈ avs,one a = true
 | 0,_,_,h,_,_,_ => by simp [okT] at h
 | k + 1,n,t,h,cs,x,hx => by
  unfold okT at h
  unfold Shp
  cases hu : P.underlying t with
  | none => rw [hu] at h; cases h
  | some d =>
   rw [hu] at h
   cases d with
   | bool =>
    obtain ⟨b,rfl,_⟩:=DataW.trod_bool hu hx
    refine ⟨[.bool b],⟨b,rfl⟩,?_,by simp [one]⟩
    unfold RepDL
    refine ⟨_,_,rfl,by unfold RepD; rfl,by unfold RepDL; rfl⟩
   | int κ =>
    obtain ⟨z,rfl,_,hz⟩:=DataW.trod_int hu hx
    refine ⟨[.int κ z],⟨z,rfl,hz⟩,?_,by simp [one]⟩
    unfold RepDL
    refine ⟨_,_,rfl,by unfold RepD; rfl,by unfold RepDL; rfl⟩
   | string =>
    obtain ⟨b,rfl,_,_⟩:=DataW.trod_string hu hx
    refine ⟨[.str b],⟨b,rfl⟩,?_,by simp [one]⟩
    unfold RepDL
    refine ⟨_,_,rfl,by unfold RepD; rfl,by unfold RepDL; rfl⟩
   | slice e =>
    simp only [Bool.and_eq_true,bne_iff_ne] at h
    rcases DataW.trod_slice hu hx with ⟨rfl,_⟩ | ⟨a,len,cap,elems,rest,m,_,rfl,_,_,hlc,hcm,hel,hget,_,_⟩
    ·refine ⟨[.sl []],⟨[],rfl,Nat.zero_le _,by simp⟩,?_,by simp [one]⟩
     unfold RepDL
     refine ⟨_,_,rfl,?_,by unfold RepDL; rfl⟩
     unfold RepD
     exact ⟨none,0,rfl,Nat.le_refl 0,Nat.zero_le _,.inl rfl⟩
    ·have hel2 : ∀ i,i < len -> ∃ x cs,w.cells? 0 (a.add (i * P.cellsOf e)) (P.cellsOf e) = some cs∧DataW.trod enc P w 0 spare held m e cs = some x:=by
      intro i hi
      have g:=hget i hi
      have hs : elems[i]? = some (elems[i]'(by omega)):=List.getElem?_eq_getElem (by omega)
      rw [hs,Option.bind_eq_some_iff] at g
      obtain ⟨cs,c1,c2⟩:=g
      exact ⟨_,cs,c1,c2⟩
     obtain ⟨rows,s1,s2,s3⟩:=rep_rows (F:=fun b => b < w.heap.size) h.2 (fun t ht cs x hx => rep_of k m t ht cs x hx) hel2 len 0 (by omega)
     refine ⟨[.sl rows],⟨rows,rfl,by omega,s2⟩,?_,by simp [one]⟩
     unfold RepDL
     refine ⟨_,_,rfl,?_,by unfold RepDL; rfl⟩
     unfold RepD
     refine ⟨some a,cap,by rw [s1],by omega,hcm,?_⟩
     by_cases hz : len = 0
     ·left
      exact List.length_eq_zero_iff.1 (by omega)
     ·right
      obtain ⟨x0,cs0,c0,_⟩:=hel2 0 (by omega)
      rw [Nat.zero_mul] at c0
      unfold World.cells? at c0
      rw [if_pos (Nat.zero_le _)] at c0
      have hl : cs0.length = P.cellsOf e:=by simpa using mapM_some_length c0
      have g:=mapM_some_get c0 0 0 (List.getElem?_range (Nat.pos_of_ne_zero h.1))
      rw [List.getElem?_eq_getElem (show 0 < cs0.length by omega)] at g
      have hsp : a.spot = none∧a.block < w.heap.size:=by
       have e0 : (a.add 0).add 0 = a:=rfl
       rw [e0] at g
       refine ⟨?_,World.block_lt_of_cell? w a g⟩
       unfold World.cell? at g
       split at g
       ·cases hs : a.spot with
        | none => rfl
        | some s => exact absurd g (by simp [hs])
       ·cases g
      refine ⟨a.block,a.off,P.cellsOf e,?_,hsp.2,?_⟩
      ·obtain ⟨ab,ao,as⟩:=a
       have : as = none:=hsp.1
       rw [this]
      ·rw [Nat.zero_mul,Nat.add_zero] at s3
       exact s3
   | struct fs =>
    obtain ⟨xs,m,_,_,hlen,hxs,hg⟩:=DataW.trod_struct hu hx
    obtain ⟨avs,s1,s2,s3⟩:=rep_fields (F:=fun b => b < w.heap.size) (fun t ht cs x hx => rep_of k m t ht cs x hx) cs _ hlen fs.toList 0 h (by
     intro f hf
     obtain ⟨i,hi,rfl⟩:=List.getElem_of_mem hf
     have hi' : i < fs.size:=by simpa using hi
     have g:=hg i fs[i] (by simp [hi'])
     rw [List.getElem?_eq_getElem (show i < xs.length by omega)] at g
     exact ⟨_,g⟩)
    rw [List.drop_zero] at s2
    exact ⟨avs,s1,s2,s3⟩
   | _ => cases h
theorem okFs_mem {ok : TypeId -> Bool} : ∀ {fs : List Field} {i n : Nat},okFs ok P i n fs = true -> ∀ f ∈ fs,ok f.type = true
 | [],_,_,_,f,hf => by cases hf
 | g :: fs,i,n,h,f,hf => by
  simp only [okFs,Bool.and_eq_true,beq_iff_eq] at h
  rcases List.mem_cons.1 hf with rfl | hf
  ·exact h.2.1
  ·exact okFs_mem h.2.2 f hf
theorem spare_of {base : Nat} {sp : Nat -> Bool} : ∀ (k n : Nat) (t : TypeId),okT P k t = true -> ∀ cs x,DataW.trod enc P w base (fun _ => true) held n t cs = some x -> (∀ p ∈ x.2,sp p.block = true) -> DataW.trod enc P w base sp held n t cs = some x
 | 0,_,_,h,_,_,_,_ => by simp [okT] at h
 | _ + 1,0,_,_,_,_,hx,_ => by simp [DataW.trod] at hx
 | k + 1,n + 1,t,h,cs,x,hx,hp => by
  unfold okT at h
  cases hu : P.underlying t with
  | none => rw [hu] at h; cases h
  | some d =>
   rw [hu] at h
   cases d with
   | bool =>
    obtain ⟨b,rfl,rfl⟩:=DataW.trod_bool hu hx
    simp [DataW.trod,hu]
   | int κ =>
    obtain ⟨z,rfl,rfl,hz⟩:=DataW.trod_int hu hx
    simp [DataW.trod,hu,hz]
   | string =>
    obtain ⟨b,rfl,rfl,hz⟩:=DataW.trod_string hu hx
    simp [DataW.trod,hu,hz]
   | slice e =>
    simp only [Bool.and_eq_true,bne_iff_ne] at h
    rcases DataW.trod_slice hu hx with ⟨rfl,rfl⟩ | ⟨a,len,cap,elems,rest,m,hm,rfl,rfl,hb,hlc,hcm,hel,hget,hr1,_⟩
    ·simp [DataW.trod,hu]
    ·obtain rfl : n = m:=by omega
     obtain ⟨hrl,hrest⟩:=hr1 rfl
     have one : ∀ (i : Nat) (y : DataW H × List MemPlace),y ∈ elems ++ rest -> (w.cells? base (a.add (i * P.cellsOf e)) (P.cellsOf e)).bind (DataW.trod enc P w base (fun _ => true) held n e) = some y ->
       (w.cells? base (a.add (i * P.cellsOf e)) (P.cellsOf e)).bind (DataW.trod enc P w base sp held n e) = some y:=by
      intro i y hy hf
      rw [Option.bind_eq_some_iff] at hf ⊢
      obtain ⟨c,c1,c2⟩:=hf
      refine ⟨c,c1,spare_of k n e h.2 c y c2 fun p hpy => hp p ?_⟩
      exact List.mem_append.2 (.inr (List.mem_flatMap.2 ⟨y,hy,hpy⟩))
     have e1 : ((List.range len).mapM fun i => (w.cells? base (a.add (i * P.cellsOf e)) (P.cellsOf e)).bind (DataW.trod enc P w base sp held n e)) = some elems:=by
      rw [DataW.trod_step] at hx
      unfold DataW.trodStep at hx
      rw [hu] at hx
      simp only at hx
      rw [if_pos ⟨hb,hlc,hcm⟩] at hx
      simp only [if_true,Option.map_eq_some_iff,Option.bind_eq_some_iff,Prod.mk.injEq] at hx
      obtain ⟨el,hel',re,hre,_⟩:=hx
      have q1 : el = elems:=by
       refine List.ext_getElem? fun i => ?_
       by_cases hi : i < len
       ·rw [<- hget i hi]
        exact (mapM_some_get hel' i i (List.getElem?_range hi)).symm
       ·rw [List.getElem?_eq_none (by have:=mapM_some_length hel'; rw [List.length_range] at this; omega),List.getElem?_eq_none (by omega)]
      subst q1
      exact mapM_carry hel' fun i y _ hy hf => one i y (List.mem_append.2 (.inl hy)) hf
     have e2 : (if sp a.block then (List.range (cap - len)).mapM (fun j => (w.cells? base (a.add ((len + j) * P.cellsOf e)) (P.cellsOf e)).bind (DataW.trod enc P w base sp held n e)) else some []) = some rest:=by
      have hre : ((List.range (cap - len)).mapM fun j => (w.cells? base (a.add ((len + j) * P.cellsOf e)) (P.cellsOf e)).bind (DataW.trod enc P w base (fun _ => true) held n e)) = some rest:=by
       rw [DataW.trod_step] at hx
       unfold DataW.trodStep at hx
       rw [hu] at hx
       simp only at hx
       rw [if_pos ⟨hb,hlc,hcm⟩] at hx
       simp only [if_true,Option.map_eq_some_iff,Option.bind_eq_some_iff,Prod.mk.injEq] at hx
       obtain ⟨el,_,re,hre,_⟩:=hx
       have q1 : re = rest:=by
        refine List.ext_getElem? fun i => ?_
        by_cases hi : i < cap - len
        ·rw [<- hrest i hi]
         exact (mapM_some_get hre i i (List.getElem?_range hi)).symm
        ·rw [List.getElem?_eq_none (by have:=mapM_some_length hre; rw [List.length_range] at this; omega),List.getElem?_eq_none (by omega)]
       subst q1
       exact hre
      have hre2:=mapM_carry (g:=fun j => (w.cells? base (a.add ((len + j) * P.cellsOf e)) (P.cellsOf e)).bind (DataW.trod enc P w base sp held n e)) hre fun j y _ hy hf => one (len + j) y (List.mem_append.2 (.inr hy)) hf
      cases hs : sp a.block with
      | true => rw [if_pos rfl]; exact hre2
      | false =>
       rw [if_neg (by decide)]
       have hz : (elems.length + rest.length) * P.cellsOf e = 0:=by
        refine Nat.eq_zero_of_not_pos fun g => ?_
        have:=hp (.cell a.block (a.off + 0)) (List.mem_append.2 (.inl (MemPlace.mem_row.2 ⟨0,g,rfl⟩)))
        rw [show (MemPlace.cell a.block (a.off + 0)).block = a.block from rfl,hs] at this
        cases this
       have : rest.length = 0:=by
        rcases Nat.mul_eq_zero.1 hz with g | g
        ·omega
        ·exact absurd g h.1
       rw [List.length_eq_zero_iff.1 this]
     rw [DataW.trod_step]
     unfold DataW.trodStep
     rw [hu]
     simp only
     rw [if_pos ⟨hb,hlc,hcm⟩,e1]
     simp only [Option.bind_some]
     rw [e2]
     rfl
   | struct fs =>
    have hx2:=hx
    rw [DataW.trod_step] at hx ⊢
    unfold DataW.trodStep at hx ⊢
    rw [hu] at hx ⊢
    simp only at hx ⊢
    split at hx
    ·rename_i hl
     rw [if_pos hl]
     simp only [Option.map_eq_some_iff] at hx ⊢
     obtain ⟨xs,h1,rfl⟩:=hx
     refine ⟨xs,mapM_carry h1 fun f y hf hy hv => ?_,rfl⟩
     exact spare_of k n f.type (okFs_mem h f hf) _ y hv fun p hpy => hp p (List.mem_flatMap.2 ⟨y,hy,hpy⟩)
    ·cases hx
   | _ => cases h
theorem trodAll_back {W W' : World} {B : Nat} (hk : Below B W W') {sp : Nat -> Bool} (k : Nat) : ∀ {ts : List TypeId} {vs : List Value} {ds : List (DataW H)} {p : List MemPlace},(∀ t ∈ ts,okT P k t = true) -> DataW.TrodAll enc P W 0 (fun _ => true) held ts vs ds p ->
  (∀ q ∈ p,q.block < B) -> (∀ q ∈ p,sp q.block = true) -> DataW.TrodAll enc P W' 0 sp held ts vs ds p
 | [],[],[],_,_,h,_,_ => h
 | t :: ts,v :: vs,d :: ds,p,ht,h,hB,hs => by
  obtain ⟨a,b,⟨fuel,h1⟩,h2,rfl⟩:=h
  refine ⟨a,b,⟨fuel,?_⟩,trodAll_back hk k (fun u hu => ht u (by simp [hu])) h2 (fun q hq => hB q (by simp [hq])) (fun q hq => hs q (by simp [hq])),rfl⟩
  refine spare_of k fuel t (ht t (by simp)) _ _ ?_ (fun q hq => hs q (by simp only at hq; simp [hq]))
  refine DataW.trod_carry (w:=W) fuel t _ _ h1 fun q hq => ?_
  have hb:=hB q (by simp only at hq; simp [hq])
  cases q with
  | cell blk off => exact hk.cell (p:=⟨blk,off,none⟩) hb
  | map blk => exact hk.block blk hb
 | [],[],_ :: _,_,_,h,_,_ => by simp [DataW.TrodAll] at h
 | [],_ :: _,_,_,_,h,_,_ => by simp [DataW.TrodAll] at h
 | _ :: _,[],_,_,_,h,_,_ => by simp [DataW.TrodAll] at h
 | _ :: _,_ :: _,[],_,_,h,_,_ => by simp [DataW.TrodAll] at h
theorem arg_one {k : Nat} {t : TypeId} {v : Value} {d : DataW H} {p : List MemPlace} (hv : v.cells = #[v]) (hok : okT P k t = true) (h : DataW.Trod enc P w 0 spare held t v d p) :
  ∃ av,Shp P k t [av]∧RepD w (fun b => b < w.heap.size) av v:=by
 obtain ⟨fuel,hf⟩:=h
 rw [hv] at hf
 obtain ⟨avs,s1,s2,_⟩:=rep_of k fuel t hok _ _ hf
 have hl:=repDL_len s2
 match avs,hl with
 | [av],_ =>
  unfold RepDL at s2
  obtain ⟨u,us,e,hu,hus⟩:=s2
  unfold RepDL at hus
  subst hus
  simp only [List.cons.injEq,and_true] at e
  rw [<- e] at hu
  exact ⟨av,s1,hu⟩
end
end Ab
end
section
open Go Go.WideShapes Go.RowKit
namespace Ab
variable {P : Program} {k : Nat} {t : TypeId} {avs : List AV}
theorem shp_int {κ : IntKind} (hu : P.underlying t = some (.int κ)) (h : Shp P (k + 1) t avs) : ∃ n,avs = [.int κ n]∧(Lit.int κ n).wf = true:=by
 unfold Shp at h; rw [hu] at h; exact h
theorem shp_slice {e : TypeId} (hu : P.underlying t = some (.slice e)) (h : Shp P (k + 1) t avs) : ∃ rows,avs = [.sl rows]∧rows.length <= maxLen∧∀ r ∈ rows,Shp P k e r:=by
 unfold Shp at h; rw [hu] at h; exact h
theorem shp_ints {e : TypeId} {κ : IntKind} (he : P.underlying e = some (.int κ)) : ∀ {rows : List (List AV)},(∀ r ∈ rows,Shp P (k + 1) e r) -> ∃ l : List Int,rows = irows κ l∧∀ x ∈ l,(Lit.int κ x).wf = true
 | [],_ => ⟨[],rfl,fun _ h => by cases h⟩
 | r :: rows,h => by
  obtain ⟨l,rfl,hl⟩:=shp_ints he (rows:=rows) (fun q hq => h q (by simp [hq]))
  obtain ⟨n,rfl,hn⟩:=shp_int he (h r (by simp))
  refine ⟨n :: l,rfl,?_⟩
  intro x hx
  rcases List.mem_cons.1 hx with rfl | hx
  ·exact hn
  ·exact hl x hx
end Ab
end
