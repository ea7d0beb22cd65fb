import Derived.Test.YtinhfpljdjlomaaGreatXStep
namespace Ab
open Go Go.RowKit
def toX (hp : Nat -> Option Blk) (v : AV) (K : AV -> Prop) : Prop :=
 match v with
 | .ms k off len => match hp k with
  | some (.box cs) => (Nat.ble cs.length 65536 = true ∧ off + len <= cs.length) ∧ toDs hp ((cs.drop off).take len) fun ds => K (.sl (ds.map fun d => [d]))
  | _ => toW hp (.ms k off len) K
 | v => toW hp v K
def toXs (hp : Nat -> Option Blk) : List AV -> (List AV -> Prop) -> Prop
 | [],K => K []
 | v :: vs,K => toX hp v fun d => toXs hp vs fun ds => K (d :: ds)
def toXR (hp : Nat -> Option Blk) (v : AV) (K : AV -> Prop) : Prop :=
 match v with
 | .tup vs => toXs hp vs fun vs => K (.tup vs)
 | v => toX hp v K
section
variable {c : Ctx} {F : Foot} {M : Nat -> Option MB} {hp : Nat -> Option Blk} {nx : Nat} {w w' : World}
theorem frzG_P {ks : List Nat} {b : Nat} (hb : frzG ks hp M F b) : frzP hp M F b:=by
 rcases hb with hb | ⟨k,m,h1,h2,h3,h4⟩
 ·exact .inl hb
 ·exact .inr ⟨k,m,by rcases h2 with ⟨_,_,_,e⟩ | ⟨_,_,e⟩ <;> rw [e] <;> simp,h3,h4⟩
theorem toX_sound (h : HR c F M hp nx w) {av : AV} {v : Value} (hv : RepM w F M av v) {K : AV -> Prop} (hK : toX hp av K) :
  ∃ d,RepD w (frzP hp M F) d v ∧ K d:=by
 have gen : toW hp av K -> ∃ d,RepD w (frzP hp M F) d v ∧ K d:=by
  intro hK
  obtain ⟨d,h1,h2⟩:=toW_sound h hv hK
  exact ⟨d,RepD.mono (fun b hb => frzG_P hb) (fun _ _ => rfl) _ _ h1,h2⟩
 cases av with
 | ms k off len =>
  simp only [toX] at hK
  cases hb : hp k with
  | none => rw [hb] at hK; exact gen hK
  | some blk =>
   rw [hb] at hK
   cases blk with
   | box cs =>
    simp only at hK
    obtain ⟨⟨hcap,hl⟩,hK⟩:=hK
    have hcap:=Nat.le_of_ble_eq_true hcap
    obtain ⟨m,f1,_,_,_,f2,f7⟩:=h.box k cs hb
    have hs:=RepMC.sub cs 0 off len f7
    rw [Nat.zero_add] at hs
    obtain ⟨vs,g1,g2,g3,g4⟩:=RepMC.vals _ _ hs
    obtain ⟨ds,d1,d2,hK⟩:=toDs_sound h _ _ g2 hK
    have hlen : ((cs.drop off).take len).length = len:=by simp; omega
    have hdl : ds.length = len:=by have:=RepDL.len _ _ d1; omega
    refine ⟨_,?_,hK⟩
    have hF : frzP hp M F m.b:=.inr ⟨k,m,by rw [hb]; simp,f1,rfl⟩
    have d1' : RepDL w (frzP hp M F) ds vs:=RepDL.mono (fun b hb => frzF_P hb) (fun _ _ => rfl) _ _ d1
    unfold RepM at hv
    obtain ⟨m',e1,e2⟩:=hv
    rw [f1] at e1; cases e1
    have hmax : m.cap <= maxLen:=by rw [<- f2.2]; exact Nat.le_trans hcap (by decide)
    unfold RepD
    rw [List.length_map,hdl]
    rcases e2 with ⟨e2,e3⟩ | ⟨rfl,_,p,cp,e4,e5⟩
    ·refine ⟨_,_,e2,by omega,by omega,.inr ⟨m.b,off * m.sz,1,rfl,hF,?_⟩⟩
     rw [f2.1,Nat.mul_one]
     exact RepR_ones ds vs off d1' d2 g4
    ·refine ⟨p,cp,e4,Nat.zero_le _,e5,.inl ?_⟩
     have : ds = []:=List.eq_nil_of_length_eq_zero hdl
     rw [this]; rfl
   | _ => exact gen hK
 | _ => exact gen hK
theorem toXs_sound (h : HR c F M hp nx w) : ∀ (l : List AV) (vs : List Value),RepML w F M l vs -> ∀ {K : List AV -> Prop},toXs hp l K ->
  ∃ ds,RepDL w (frzP hp M F) ds vs ∧ K ds
 | [],vs,hv,K,hK => ⟨[],by unfold RepML at hv; unfold RepDL; exact hv,hK⟩
 | a :: l,vs,hv,K,hK => by
   unfold RepML at hv
   obtain ⟨v,vs',rfl,h1,h2⟩:=hv
   unfold toXs at hK
   obtain ⟨d,h3,hK⟩:=toX_sound h h1 hK
   obtain ⟨ds,h5,hK⟩:=toXs_sound h l vs' h2 hK
   refine ⟨d :: ds,?_,hK⟩
   unfold RepDL
   exact ⟨v,vs',rfl,h3,h5⟩
theorem toXR_sound (h : HR c F M hp nx w) {av : AV} {v : Value} (hv : RepM w F M av v) {K : AV -> Prop} (hK : toXR hp av K) :
  ∃ d,RepD w (frzP hp M F) d v ∧ K d:=by
 cases av with
 | tup cs =>
  unfold RepM at hv
  obtain ⟨vs,rfl,h2⟩:=hv
  obtain ⟨ds,h3,h4⟩:=toXs_sound h cs vs h2 hK
  exact ⟨.tup ds,by unfold RepD; exact ⟨vs,rfl,h3⟩,h4⟩
 | _ => exact toX_sound h hv hK
end
theorem spec_fnX {P : Program} {T : List (Nat × TyI)} {gl : List (Nat × AV)} (hT : TOk P T) (hmo : P.follows .mixedOrders = true) (n : Nat) {f : FuncId} {fn : Func} {ds : List AV} {r : AV} (h1 : P.funcs[f]? = some fn) (h2 : fnOk P f fn = true) (hN : Nat.ble ds.length fn.ntmps = true)
  (hK : awC T gl (callX P gl (Hn P T gl n)) (Hn P T gl n) (Gn P T gl (Hn P T gl n)) (fn.body.getD .skip) ⟨tmOf ds,fun _ => none,0⟩ fun e s' => (e = .normal ∨ e = .ret) ∧ resA T s' fn.results.toList fun vs => toXR s'.hp (resV vs) fun d => d = r) : Spec P gl f ds r:=by
 obtain ⟨cd,hb,he,hok,hr⟩:=fnOk_parts h2
 rw [hb] at hK
 intro w F vals hF hg hv
 refine .inl ⟨he,?_⟩
 let c : Ctx:={ P:=P,T:=T,gl:=gl,w0:=w,F0:=F }
 have h : HR c F (fun _ => none) (fun _ => none) 0 w:=⟨(fun _ _ h => by cases h),(fun _ _ _ _ h => by cases h),(fun _ _ _ h => by cases h),fun _ _ _ _ h => absurd rfl h,fun _ _ => ⟨rfl,rfl⟩,hF,fun b h => .inl h,hg,Below.refl _ _,fun _ _ h => (by cases h),fun _ h => (by cases h),fun _ h => (by cases h),fun _ h => (by cases h),fun _ _ h => (by cases h)⟩
 refine Calls.mono (body_calls (c:=c) (K:=fun v s' => toXR s'.hp v fun d => d = r) hT (callX_makes P gl _) hmo (fun _ => True) trivial h (fun al _ => callX_sound (Hn_sound (c:=c) hT hmo n _ rfl rfl rfl)) (fun al _ => Hn_sound (c:=c) hT hmo n _ rfl rfl rfl)
  (.inr ⟨fun _ => trivial,fun al => Gn_sound (c:=(c.wb _).wa al) hT hmo fun c'' g1 g2 g3 => Hn_sound (c:=c) hT hmo n c'' g1 g2 g3⟩) h1 hb hok hN hr (RepML.of_D _ _ hv) hK) fun e w' hh => ?_
 obtain ⟨v,av,s',F',M',rfl,h2,h3,h4,h5⟩:=hh
 obtain ⟨d,k1,rfl⟩:=toXR_sound h2 h4 h5
 refine ⟨v,rfl,RepD.mono (fun b hb => ?_) (fun _ _ => rfl) _ _ k1,h2.bel⟩
 have hlt:=frzP_lt h2 hb
 rcases hb with hb | ⟨k,m,g1,g2,rfl⟩
 ·rcases h2.hist b hb with h6 | h6
  ·exact .inl h6
  ·exact .inr ⟨h6,hlt⟩
 ·exact .inr ⟨(h2.owned g1 g2).1,hlt⟩
end Ab
