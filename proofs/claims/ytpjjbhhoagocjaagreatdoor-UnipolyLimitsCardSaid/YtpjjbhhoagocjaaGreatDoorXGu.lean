import Derived.Test.YtpjjbhhoagocjaaGreatDoorXGa
import Derived.ChangeShapes
import Derived.ChangeReads
import Derived.ChangeArms
import Derived.ChangeOld
import Derived.Below
import Derived.ChangeSame
import Derived.WideShapes
import Derived.Test.YtpjjbhhoagocjaaGreatDoorXBase
section
open Go Go.WideShapes Go.RowKit
namespace Ab
def okFs (ok : TypeId -> Bool) (P : Program) : Nat -> Nat -> List Field -> Bool
 | i,n,[] => i == n
 | i,n,f :: fs => (f.offset == i) && (ok f.type && okFs ok P (i + P.cellsOf f.type) n fs)
def okT (P : Program) : Nat -> TypeId -> Bool
 | 0,_ => false
 | k + 1,t => match P.underlying t with
  | some .bool => true
  | some (.int _) => true
  | some .string => true
  | some (.slice e) => (P.cellsOf e != 0) && okT P k e
  | some (.struct fs) => okFs (okT P k) P 0 (P.cellsOf t) fs.toList
  | _ => false
section
variable {w : World} {F : Foot}
variable {H : Type} {enc : TypeId × Value -> H} {P : Program} {spare : Nat -> Bool} {held : Bool}
theorem okFs_mem {ok : TypeId -> Bool} : ∀ {fs : List Field} {i n : Nat},okFs ok P i n fs = true -> ∀ f ∈ fs,ok f.type = true
 | [],_,_,_,f,hf => by cases hf
 | g :: fs,i,n,h,f,hf => by
  simp only [okFs,Bool.and_eq_true,beq_iff_eq] at h
  rcases List.mem_cons.1 hf with rfl | hf
  ·exact h.2.1
  ·exact okFs_mem h.2.2 f hf
theorem spare_of {base : Nat} {sp : Nat -> Bool} : ∀ (k n : Nat) (t : TypeId),okT P k t = true -> ∀ cs x,DataW.trod enc P w base (fun _ => true) held n t cs = some x -> (∀ p ∈ x.2,sp p.block = true) -> DataW.trod enc P w base sp held n t cs = some x
 | 0,_,_,h,_,_,_,_ => by simp [okT] at h
 | _ + 1,0,_,_,_,_,hx,_ => by simp [DataW.trod] at hx
 | k + 1,n + 1,t,h,cs,x,hx,hp => by
  unfold okT at h
  cases hu : P.underlying t with
  | none => rw [hu] at h; cases h
  | some d =>
   rw [hu] at h
   cases d with
   | bool =>
    obtain ⟨b,rfl,rfl⟩:=DataW.trod_bool hu hx
    simp [DataW.trod,hu]
   | int κ =>
    obtain ⟨z,rfl,rfl,hz⟩:=DataW.trod_int hu hx
    simp [DataW.trod,hu,hz]
   | string =>
    obtain ⟨b,rfl,rfl,hz⟩:=DataW.trod_string hu hx
    simp [DataW.trod,hu,hz]
   | slice e =>
    simp only [Bool.and_eq_true,bne_iff_ne] at h
    rcases DataW.trod_slice hu hx with ⟨rfl,rfl⟩ | ⟨a,len,cap,elems,rest,m,hm,rfl,rfl,hb,hlc,hcm,hel,hget,hr1,_⟩
    ·simp [DataW.trod,hu]
    ·obtain rfl : n = m:=by omega
     obtain ⟨hrl,hrest⟩:=hr1 rfl
     have one : ∀ (i : Nat) (y : DataW H × List MemPlace),y ∈ elems ++ rest -> (w.cells? base (a.add (i * P.cellsOf e)) (P.cellsOf e)).bind (DataW.trod enc P w base (fun _ => true) held n e) = some y ->
       (w.cells? base (a.add (i * P.cellsOf e)) (P.cellsOf e)).bind (DataW.trod enc P w base sp held n e) = some y:=by
      intro i y hy hf
      rw [Option.bind_eq_some_iff] at hf ⊢
      obtain ⟨c,c1,c2⟩:=hf
      refine ⟨c,c1,spare_of k n e h.2 c y c2 fun p hpy => hp p ?_⟩
      exact List.mem_append.2 (.inr (List.mem_flatMap.2 ⟨y,hy,hpy⟩))
     have e1 : ((List.range len).mapM fun i => (w.cells? base (a.add (i * P.cellsOf e)) (P.cellsOf e)).bind (DataW.trod enc P w base sp held n e)) = some elems:=by
      rw [DataW.trod_step] at hx
      unfold DataW.trodStep at hx
      rw [hu] at hx
      simp only at hx
      rw [if_pos ⟨hb,hlc,hcm⟩] at hx
      simp only [if_true,Option.map_eq_some_iff,Option.bind_eq_some_iff,Prod.mk.injEq] at hx
      obtain ⟨el,hel',re,hre,_⟩:=hx
      have q1 : el = elems:=by
       refine List.ext_getElem? fun i => ?_
       by_cases hi : i < len
       ·rw [<- hget i hi]
        exact (mapM_some_get hel' i i (List.getElem?_range hi)).symm
       ·rw [List.getElem?_eq_none (by have:=mapM_some_length hel'; rw [List.length_range] at this; omega),List.getElem?_eq_none (by omega)]
      subst q1
      exact mapM_carry hel' fun i y _ hy hf => one i y (List.mem_append.2 (.inl hy)) hf
     have e2 : (if sp a.block then (List.range (cap - len)).mapM (fun j => (w.cells? base (a.add ((len + j) * P.cellsOf e)) (P.cellsOf e)).bind (DataW.trod enc P w base sp held n e)) else some []) = some rest:=by
      have hre : ((List.range (cap - len)).mapM fun j => (w.cells? base (a.add ((len + j) * P.cellsOf e)) (P.cellsOf e)).bind (DataW.trod enc P w base (fun _ => true) held n e)) = some rest:=by
       rw [DataW.trod_step] at hx
       unfold DataW.trodStep at hx
       rw [hu] at hx
       simp only at hx
       rw [if_pos ⟨hb,hlc,hcm⟩] at hx
       simp only [if_true,Option.map_eq_some_iff,Option.bind_eq_some_iff,Prod.mk.injEq] at hx
       obtain ⟨el,_,re,hre,_⟩:=hx
       have q1 : re = rest:=by
        refine List.ext_getElem? fun i => ?_
        by_cases hi : i < cap - len
        ·rw [<- hrest i hi]
         exact (mapM_some_get hre i i (List.getElem?_range hi)).symm
        ·rw [List.getElem?_eq_none (by have:=mapM_some_length hre; rw [List.length_range] at this; omega),List.getElem?_eq_none (by omega)]
       subst q1
       exact hre
      have hre2:=mapM_carry (g:=fun j => (w.cells? base (a.add ((len + j) * P.cellsOf e)) (P.cellsOf e)).bind (DataW.trod enc P w base sp held n e)) hre fun j y _ hy hf => one (len + j) y (List.mem_append.2 (.inr hy)) hf
      cases hs : sp a.block with
      | true => rw [if_pos rfl]; exact hre2
      | false =>
       rw [if_neg (by decide)]
       have hz : (elems.length + rest.length) * P.cellsOf e = 0:=by
        refine Nat.eq_zero_of_not_pos fun g => ?_
        have:=hp (.cell a.block (a.off + 0)) (List.mem_append.2 (.inl (MemPlace.mem_row.2 ⟨0,g,rfl⟩)))
        rw [show (MemPlace.cell a.block (a.off + 0)).block = a.block from rfl,hs] at this
        cases this
       have : rest.length = 0:=by
        rcases Nat.mul_eq_zero.1 hz with g | g
        ·omega
        ·exact absurd g h.1
       rw [List.length_eq_zero_iff.1 this]
     rw [DataW.trod_step]
     unfold DataW.trodStep
     rw [hu]
     simp only
     rw [if_pos ⟨hb,hlc,hcm⟩,e1]
     simp only [Option.bind_some]
     rw [e2]
     rfl
   | struct fs =>
    have hx2:=hx
    rw [DataW.trod_step] at hx ⊢
    unfold DataW.trodStep at hx ⊢
    rw [hu] at hx ⊢
    simp only at hx ⊢
    split at hx
    ·rename_i hl
     rw [if_pos hl]
     simp only [Option.map_eq_some_iff] at hx ⊢
     obtain ⟨xs,h1,rfl⟩:=hx
     refine ⟨xs,mapM_carry h1 fun f y hf hy hv => ?_,rfl⟩
     exact spare_of k n f.type (okFs_mem h f hf) _ y hv fun p hpy => hp p (List.mem_flatMap.2 ⟨y,hy,hpy⟩)
    ·cases hx
   | _ => cases h
theorem trodAll_back {W W' : World} {B : Nat} (hk : Below B W W') {sp : Nat -> Bool} (k : Nat) : ∀ {ts : List TypeId} {vs : List Value} {ds : List (DataW H)} {p : List MemPlace},(∀ t ∈ ts,okT P k t = true) -> DataW.TrodAll enc P W 0 (fun _ => true) held ts vs ds p ->
  (∀ q ∈ p,q.block < B) -> (∀ q ∈ p,sp q.block = true) -> DataW.TrodAll enc P W' 0 sp held ts vs ds p
 | [],[],[],_,_,h,_,_ => h
 | t :: ts,v :: vs,d :: ds,p,ht,h,hB,hs => by
  obtain ⟨a,b,⟨fuel,h1⟩,h2,rfl⟩:=h
  refine ⟨a,b,⟨fuel,?_⟩,trodAll_back hk k (fun u hu => ht u (by simp [hu])) h2 (fun q hq => hB q (by simp [hq])) (fun q hq => hs q (by simp [hq])),rfl⟩
  refine spare_of k fuel t (ht t (by simp)) _ _ ?_ (fun q hq => hs q (by simp only at hq; simp [hq]))
  refine DataW.trod_carry (w:=W) fuel t _ _ h1 fun q hq => ?_
  have hb:=hB q (by simp only at hq; simp [hq])
  cases q with
  | cell blk off => exact hk.cell (p:=⟨blk,off,none⟩) hb
  | map blk => exact hk.block blk hb
 | [],[],_ :: _,_,_,h,_,_ => by simp [DataW.TrodAll] at h
 | [],_ :: _,_,_,_,h,_,_ => by simp [DataW.TrodAll] at h
 | _ :: _,[],_,_,_,h,_,_ => by simp [DataW.TrodAll] at h
 | _ :: _,_ :: _,[],_,_,h,_,_ => by simp [DataW.TrodAll] at h
end
end Ab
end
section
open Go Go.WideShapes Go.RowKit
namespace Ab
variable {P : Program} {k : Nat} {t : TypeId} {avs : List AV}
end Ab
end
