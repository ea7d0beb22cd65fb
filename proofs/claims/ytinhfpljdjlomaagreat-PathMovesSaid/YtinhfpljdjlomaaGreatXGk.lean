import Derived.Test.YtinhfpljdjlomaaGreatXGj
import Derived.Test.YtinhfpljdjlomaaGreatXMap
import Derived.Test.YtinhfpljdjlomaaGreatXOut
section
open Go Go.Proofs
namespace Ab
set_option maxRecDepth 100000
set_option maxHeartbeats 1000000
structure Mv where
 st : Int
 co : Int
 ta : Bool
 tl : List Int
 tc : Bool
 tm : List Int
def Mv.to (m : Mv) : List AV:=[.bool m.ta,lim m.tl,.bool m.tc,lim m.tm]
def mrow (m : Mv) : List AV:=[.int .i64 m.st,.int .i64 m.co,.bool m.ta,lim m.tl,.bool m.tc,lim m.tm]
abbrev mvv (l : List Mv) : AV:=.sl (l.map mrow)
theorem mrow_len (l : List Mv) : (l.map mrow).length = l.length:=by simp
theorem mrow_at {l : List Mv} {i : Nat} {s : Mv} (h : l[i]? = some s) : (l.map mrow)[((i : Int)).toNat]? = some (mrow s):=by rw [Int.toNat_natCast]; simp [h]
def aftL (p : Ps) (l : List (Nat × Mv)) : Ps:=l.foldl (fun p x => p.set x.1 x.2.to) p
theorem aftL_snoc (p : Ps) (l : List (Nat × Mv)) (x : Nat × Mv) : aftL p (l ++ [x]) = (aftL p l).set x.1 x.2.to:=by simp [aftL]
theorem aftL_len (p : Ps) (l : List (Nat × Mv)) : (aftL p l).length = p.length:=by
 induction l generalizing p with
 | nil => rfl
 | cons x l ih => show (aftL (p.set x.1 x.2.to) l).length = _; rw [ih]; simp
def natI (l : List Nat) : List Int:=l.map fun (n : Nat) => (n : Int)
theorem natI_len (l : List Nat) : (natI l).length = l.length:=by simp [natI]
theorem natI_at {l : List Nat} {i n : Nat} (h : l[i]? = some n) : (natI l)[i]? = some (n : Int):=by simp [natI,h]
theorem zip_snoc {tg : List Nat} {ms : List Mv} {k n : Nat} {m : Mv} (h1 : tg[k]? = some n) (h2 : ms[k]? = some m) : (tg.zip ms).take (k + 1) = (tg.zip ms).take k ++ [(n,m)]:=by
 have : (tg.zip ms)[k]? = some (n,m):=by rw [List.getElem?_zip_eq_some]; exact ⟨h1,h2⟩
 rw [List.take_add_one,this]
 rfl
theorem Okp.qd {p : Ps} (h : Okp p) : QDs p:=fun r hr => by
 obtain ⟨n,d,rfl,_⟩:=h r hr
 exact ⟨_,_,_,_,rfl,Dg.magD _,Dg.magD _⟩
theorem aftL_ok {p : Ps} {l : List (Nat × Mv)} (h : Okp p) (hq : ∀ x ∈ l,Qok x.2.to) : Okp (aftL p l):=by
 induction l generalizing p with
 | nil => exact h
 | cons x l ih =>
  refine ih (p:=p.set x.1 x.2.to) (fun r hr => ?_) (fun y hy => hq y (by simp [hy]))
  rcases List.mem_or_eq_of_mem_set hr with hr | rfl
  ·exact h r hr
  ·exact hq x (by simp)
theorem zip_to {tg : List Nat} {ms : List Mv} (hq : ∀ m ∈ ms,Qok m.to) : ∀ x ∈ tg.zip ms,Qok x.2.to:=fun x hx => hq _ (List.of_mem_zip (a:=x.1) (b:=x.2) hx).2
theorem after_spec {p : Ps} {ms : List Mv} {tg : List Nat} (h : Okp p) (hl : p.length <= 20) (hg : ∀ n ∈ tg,n < p.length) (hn : tg.length = ms.length) (hq : ∀ m ∈ ms,Qok m.to) (hml : ms.length <= 200) :
  Spec Tryz.prog [] 49 [.sl p,mvv ms,lin (natI tg)] (.sl (aftL p (tg.zip ms))):=by
 refine spec_fn T_ok mixed_ok 1 Tryz.func49 fn_ok49 (by kernel_rfl) ?_
 refine Hn_in Tryz.f48 Tryz.func48 fn_ok48 (by kernel_rfl) ?_
 refine And.intro (show (0 : Int) <= (p.length : Int) by omega) (And.intro (Int.le_refl _) (And.intro (show (p.length : Int) * 64 <= 140737488355328 by omega) (And.intro (show (p.length : Int) <= maxLen by simp only [maxLen]; omega) ?_)))
 refine aw_loop (fun i : Nat => stOf [(0,.sl p),(3,.ms 0 0 p.length),(9,.int .i64 (p.length : Int)),(10,.int .i64 (i : Int))] [(0,.arr (67,4) (p.take i ++ List.replicate (p.length - i) zr) true)] 1) (fun i => i <= p.length) (fun i => p.length - i) 0 (Nat.zero_le _)
  (le_by ⟨rfl,rfl,rfl,rfl,trivial⟩ ⟨rfl,trivial⟩ (Nat.le_refl _)) ?_
 intro i hi P hP
 refine br (fun g => ?_) (fun g => ?_)
 ·have g : i < p.length:=by have : (i : Int) < (p.length : Int):=g; omega
  obtain ⟨r,hr⟩:=get_of g
  have hq:=h r (List.mem_of_getElem? hr)
  have s:=own_spec hq
  obtain ⟨n,d,rfl,_⟩:=hq
  refine And.intro (Int.natCast_nonneg i) (Exists.intro _ (And.intro (nat_at hr) ?_))
  first | refine Exists.intro _ (And.intro (s) ?_) | refine Hn_by (Exists.intro _ (And.intro (s) ?_))
  refine And.intro (Int.natCast_nonneg i) (And.intro (show (i : Int) < (p.length : Int) by omega) ?_)
  refine Exists.intro zr (And.intro (show (p.take i ++ List.replicate (p.length - i) zr)[0 + (i : Int).toNat]? = some zr by rw [Nat.zero_add,Int.toNat_natCast]; exact fill_at g) ?_)
  refine hP (i + 1) _ ?_ g (by omega)
  refine le_by ⟨rfl,rfl,rfl,int_eq ?_,trivial⟩ ⟨?_,trivial⟩ (Nat.le_refl _)
  ·exact w64_succ g (by omega)
  ·show some (Blk.arr (67,4) ((p.take i ++ List.replicate (p.length - i) zr).set (0 + (i : Int).toNat) (qr n d)) true) = _
   rw [Nat.zero_add,Int.toNat_natCast,fill_set hr]
 have g : ¬ i < p.length:=by have : ¬ (i : Int) < (p.length : Int):=g; omega
 have e : i = p.length:=by omega
 subst e
 refine And.intro (Or.inr rfl) ?_
 have lg : ((irows .i64 (natI tg)).length : Int) = tg.length:=by rw [irows_len,natI_len]
 refine aw_loop (fun k : Nat => stOf [(1,mvv ms),(7,.ms 0 0 p.length),(12,lin (natI tg)),(13,.int .i64 (tg.length : Int)),(14,.int .i64 (k : Int))] [(0,.arr (67,4) (aftL p ((tg.zip ms).take k)) true)] 1) (fun k => k <= tg.length) (fun k => tg.length - k) 0 (Nat.zero_le _)
  (le_by ⟨rfl,rfl,rfl,int_eq lg,rfl,trivial⟩ ⟨(show some (Blk.arr (67,4) (p.take p.length ++ List.replicate (p.length - p.length) zr) true) = _ by simp [aftL]),trivial⟩ (Nat.le_refl _)) ?_
 clear hP P hi
 intro k hk P hP
 refine br (fun g => ?_) (fun g => ?_)
 ·have g : k < tg.length:=by have : (k : Int) < (tg.length : Int):=g; omega
  obtain ⟨n,hn1⟩:=get_of g
  obtain ⟨m,hm⟩:=get_of (l:=ms) (i:=k) (by omega)
  have hlt:=hg n (List.mem_of_getElem? hn1)
  have s:=own_spec (hq m (List.mem_of_getElem? hm))
  refine And.intro (Int.natCast_nonneg k) (Exists.intro _ (And.intro (irow_at (natI_at hn1)) ?_))
  refine And.intro (Int.natCast_nonneg k) (Exists.intro _ (And.intro (mrow_at hm) ?_))
  first | refine Exists.intro _ (And.intro (s) ?_) | refine Hn_by (Exists.intro _ (And.intro (s) ?_))
  refine And.intro (Int.natCast_nonneg n) (And.intro (show (n : Int) < (p.length : Int) by omega) ?_)
  obtain ⟨o,ho⟩:=get_of (l:=aftL p ((tg.zip ms).take k)) (i:=n) (by rw [aftL_len]; exact hlt)
  obtain ⟨nn,nl,dn,dl,rfl,_,_⟩:=(aftL_ok h (fun x hx => zip_to hq x (List.mem_of_mem_take hx))).qd o (List.mem_of_getElem? ho)
  refine Exists.intro _ (And.intro (show (aftL p ((tg.zip ms).take k))[0 + (n : Int).toNat]? = some [.bool nn,lim nl,.bool dn,lim dl] by rw [Nat.zero_add,Int.toNat_natCast]; exact ho) ?_)
  refine hP (k + 1) _ ?_ g (by omega)
  refine le_by ⟨rfl,rfl,rfl,rfl,int_eq ?_,trivial⟩ ⟨?_,trivial⟩ (Nat.le_refl _)
  ·exact w64_succ g (by omega)
  ·show some (Blk.arr (67,4) ((aftL p ((tg.zip ms).take k)).set (0 + (n : Int).toNat) m.to) true) = _
   rw [Nat.zero_add,Int.toNat_natCast,zip_snoc hn1 hm,aftL_snoc]
 have g : ¬ k < tg.length:=by have : ¬ (k : Int) < (tg.length : Int):=g; omega
 have e : (tg.zip ms).take k = tg.zip ms:=List.take_of_length_le (by rw [List.length_zip]; omega)
 rw [e]
 refine And.intro (Or.inr rfl) ?_
 refine And.intro (show 0 + p.length <= (aftL p (tg.zip ms)).length by rw [aftL_len]; omega) (congrArg AV.sl ?_)
 rw [List.drop_zero,List.take_of_length_le (by rw [aftL_len]; exact Nat.le_refl _)]
end Ab
end
section
open Go Go.Proofs
namespace Ab
set_option maxRecDepth 100000
set_option maxHeartbeats 1000000
def fnd (q : Pr) : List Pr -> Nat -> Option Nat
 | [],_ => none
 | p :: l,i => if p.1 = q.1 ∧ p.2 = q.2 then some i else fnd q l (i + 1)
def inI (ins : List Pr) (q : Pr) : Int:=match fnd q ins 0 with | some n => (n : Int) | none => -1
theorem fnd_lt {q : Pr} : ∀ {l : List Pr} {i n : Nat},fnd q l i = some n -> i <= n ∧ n < i + l.length
 | [],i,n,h => by cases h
 | p :: l,i,n,h => by
  unfold fnd at h
  split at h
  ·cases h; exact ⟨Nat.le_refl _,by rw [List.length_cons]; omega⟩
  ·have:=fnd_lt h
   rw [List.length_cons]
   omega
theorem fnd_drop {q : Pr} {l : List Pr} {i : Nat} {p : Pr} (h : l[i]? = some p) : fnd q (l.drop i) i = if p.1 = q.1 ∧ p.2 = q.2 then some i else fnd q (l.drop (i + 1)) (i + 1):=by
 have g:=(List.getElem?_eq_some_iff.1 h).1
 rw [List.drop_eq_getElem_cons g,show l[i] = p by rw [List.getElem?_eq_getElem g] at h; exact Option.some.inj h]
 rfl
theorem prw_at {l : List Pr} {i : Nat} {p : Pr} (h : l[i]? = some p) : (l.map prw)[((i : Int)).toNat]? = some (prw p):=by rw [Int.toNat_natCast]; simp [h]
abbrev insv (l : List Pr) : AV:=.sl (l.map prw)
theorem input_spec {ins : List Pr} {m : Mv} (hl : (ins.length : Int) <= 9223372036854775807) : Spec Tryz.prog [] 54 [insv ins,.agg (mrow m)] (.int .i64 (inI ins (m.st,m.co))):=by
 refine spec_fn T_ok mixed_ok 0 Tryz.func54 fn_ok54 (by kernel_rfl) ?_
 refine aw_loopN 1 (fun i : Nat => stOf [(0,insv ins),(3,.bp 0 0),(5,.int .i64 (i : Int))] [(0,.box (mrow m))] 1) (fun i => i <= ins.length ∧ fnd (m.st,m.co) ins 0 = fnd (m.st,m.co) (ins.drop i) i) (fun i => ins.length - i) 0 ⟨Nat.zero_le _,rfl⟩
  (.inl (le_by ⟨rfl,rfl,rfl,trivial⟩ ⟨rfl,trivial⟩ (Nat.le_refl _))) (by kernel_rfl) ?_
 rintro i ⟨hi,hf⟩ P hP
 refine br (fun g => ?_) (fun g => ?_)
 ·have g : i < ins.length:=by have : (i : Int) < ((ins.map prw).length : Int):=g; rw [List.length_map] at this; omega
  obtain ⟨p,hp⟩:=get_of g
  rw [fnd_drop hp] at hf
  refine And.intro (by kernel_rfl) ?_
  refine And.intro (Int.natCast_nonneg i) (Exists.intro _ (And.intro (prw_at hp) ?_))
  refine And.intro (by decide) (And.intro (by decide) ?_)
  have next : ¬ (p.1 = m.st ∧ p.2 = m.co) -> fnd (m.st,m.co) ins 0 = fnd (m.st,m.co) (ins.drop (i + 1)) (i + 1):=fun n => by rw [hf,if_neg n]
  refine brE (fun e1 => ?_) (fun n1 => ?_)
  ·repeat (first | refine gT ?_ | refine gF ?_ | refine brT ?_ | refine brF ?_)
   refine And.intro (Int.natCast_nonneg i) (Exists.intro _ (And.intro (prw_at hp) ?_))
   repeat (first | refine gT ?_ | refine gF ?_ | refine brT ?_ | refine brF ?_)
   refine And.intro (by decide) (And.intro (by decide) ?_)
   repeat (first | refine gT ?_ | refine gF ?_ | refine brT ?_ | refine brF ?_)
   refine brE (fun e2 => ?_) (fun n2 => ?_)
   ·refine And.intro (Or.inr rfl) (int_eq ?_)
    unfold inI
    rw [hf,if_pos ⟨e1,e2⟩]
   ·refine hP (i + 1) _ ?_ ⟨g,next fun h => n2 h.2⟩ (by omega)
    refine .inl (le_by ⟨rfl,rfl,int_eq ?_,trivial⟩ ⟨rfl,trivial⟩ (Nat.le_refl _))
    exact w64_succ g hl
  ·repeat (first | refine gT ?_ | refine gF ?_ | refine brT ?_ | refine brF ?_)
   refine hP (i + 1) _ ?_ ⟨g,next fun h => n1 h.1⟩ (by omega)
   refine .inl (le_by ⟨rfl,rfl,int_eq ?_,trivial⟩ ⟨rfl,trivial⟩ (Nat.le_refl _))
   exact w64_succ g hl
 ·have g : ¬ i < ins.length:=by have : ¬ (i : Int) < ((ins.map prw).length : Int):=g; rw [List.length_map] at this; omega
  rw [List.drop_eq_nil_of_le (by omega)] at hf
  refine And.intro (Or.inr rfl) (int_eq ?_)
  unfold inI
  rw [hf]
  rfl
noncomputable def tstep (ins : List Pr) (o : Option (List Nat)) (m : Mv) : Option (List Nat) :=
 match o with
 | none => none
 | some l => match fnd (m.st,m.co) ins 0 with
  | none => none
  | some n => if n ∈ l ∨ qB m.to = false then none else some (l ++ [n])
noncomputable def tgP (ins : List Pr) (ms : List Mv) : Option (List Nat):=ms.foldl (tstep ins) (some [])
theorem tgP_snoc {ins : List Pr} {ms : List Mv} {m : Mv} : tgP ins (ms ++ [m]) = tstep ins (tgP ins ms) m:=by unfold tgP; rw [List.foldl_append]; rfl
theorem tg_none {ins : List Pr} : ∀ (ms : List Mv),ms.foldl (tstep ins) none = none
 | [] => rfl
 | _ :: ms => tg_none ms
theorem tgP_bad {ins : List Pr} {ms : List Mv} {k : Nat} (h : tgP ins (ms.take k) = none) : tgP ins ms = none:=by
 have e:=List.take_append_drop k ms
 unfold tgP at h ⊢
 rw [<- e,List.foldl_append,h,tg_none]
theorem tgP_ok {ins : List Pr} {ms : List Mv} : ∀ {l : List Nat},tgP ins ms = some l -> l.length = ms.length ∧ (∀ (k n : Nat) (m : Mv),l[k]? = some n -> ms[k]? = some m -> fnd (m.st,m.co) ins 0 = some n) ∧ ∀ m ∈ ms,qB m.to = true:=by
 have : ∀ (r : List Mv) {l : List Nat},tgP ins r.reverse = some l -> l.length = r.reverse.length ∧ (∀ (k n : Nat) (m : Mv),l[k]? = some n -> r.reverse[k]? = some m -> fnd (m.st,m.co) ins 0 = some n) ∧ ∀ m ∈ r.reverse,qB m.to = true:=by
  intro r
  induction r with
  | nil => intro l h; cases h; exact ⟨rfl,fun k n m h => by simp at h,fun m h => by simp at h⟩
  | cons m r ih =>
   intro l h
   rw [List.reverse_cons,tgP_snoc] at h
   cases ho : tgP ins r.reverse with
   | none => rw [ho] at h; cases h
   | some l0 =>
    rw [ho] at h
    obtain ⟨h1,h2,h3⟩:=ih ho
    unfold tstep at h
    simp only at h
    split at h
    ·cases h
    ·rename_i n hn
     split at h
     ·cases h
     ·rename_i hc
      cases h
      rw [List.reverse_cons]
      refine ⟨by simp [h1],fun k n' m' hk hm => ?_,fun m' hm => ?_⟩
      ·by_cases e : k < l0.length
       ·rw [List.getElem?_append_left e] at hk
        rw [List.getElem?_append_left (by omega)] at hm
        exact h2 k n' m' hk hm
       ·rw [List.getElem?_append_right (by omega)] at hk
        rw [List.getElem?_append_right (by omega)] at hm
        have hk0 : k - l0.length = 0:=by
         have:=(List.getElem?_eq_some_iff.1 hk).1
         simp at this
         omega
        rw [hk0] at hk
        rw [<- h1,hk0] at hm
        cases hk
        cases hm
        exact hn
      ·rcases List.mem_append.1 hm with hm | hm
       ·exact h3 m' hm
       ·rw [List.mem_singleton.1 hm]
        cases hb : qB m.to with
        | true => rfl
        | false => exact absurd (.inr hb) hc
 intro l h
 have:=this ms.reverse (l:=l) (by rw [List.reverse_reverse]; exact h)
 rw [List.reverse_reverse] at this
 exact this
end Ab
end
section
open Go Go.Proofs
namespace Ab
set_option maxRecDepth 100000
set_option maxHeartbeats 1000000
def MvOk (m : Mv) : Prop:=QD m.to
def MvsOk (l : List Mv) : Prop:=∀ m ∈ l,MvOk m
theorem inI_some {ins : List Pr} {q : Pr} {n : Nat} (h : fnd q ins 0 = some n) : inI ins q = (n : Int):=by unfold inI; rw [h]
theorem inI_none {ins : List Pr} {q : Pr} (h : fnd q ins 0 = none) : inI ins q = -1:=by unfold inI; rw [h]
theorem take_snc2 {α : Type} {l : List α} {k : Nat} {s : α} (h : l[k]? = some s) : l.take (k + 1) = l.take k ++ [s]:=by rw [List.take_add_one,h]; rfl
theorem apply_spec {ins : List Pr} {ms : List Mv} (hi : (ins.length : Int) <= 9223372036854775807) (hm : MvsOk ms) (hl : (ms.length : Int) <= 9223372036854775807) : Spec Tryz.prog [] 52 [insv ins,mvv ms] (.bool (tgP ins ms).isSome):=by
 refine spec_fn T_ok mixed_ok 0 Tryz.func52 fn_ok52 (by kernel_rfl) ?_
 refine aw_loopN 0 (fun i : Nat => stOf [(0,insv ins),(1,mvv ms),(5,.int .i64 (i : Int))] [] 0) (fun i => i <= ms.length ∧ (tgP ins (ms.take i)).isSome = true) (fun i => ms.length - i) 0 ⟨Nat.zero_le _,rfl⟩
  (.inl (le_by ⟨rfl,rfl,rfl,trivial⟩ trivial (Nat.le_refl _))) (by kernel_rfl) ?_
 rintro i ⟨hk,hs⟩ P hP
 refine br (fun g => ?_) (fun g => ?_)
 ·have g : i < ms.length:=by have : (i : Int) < ((ms.map mrow).length : Int):=g; rw [mrow_len] at this; omega
  obtain ⟨m,hm1⟩:=get_of g
  obtain ⟨tg,htg⟩:=Option.isSome_iff_exists.1 hs
  obtain ⟨t1,t2,t3⟩:=tgP_ok htg
  have e1 : tgP ins (ms.take (i + 1)) = tstep ins (some tg) m:=by rw [take_snc2 hm1,tgP_snoc,htg]
  have hln : tg.length = i:=by rw [t1,List.length_take]; omega
  have v:=input_spec (ins:=ins) (m:=m) hi
  have q:=(qvalid_tot [] (hm m (List.mem_of_getElem? hm1))).2
  refine And.intro (Int.natCast_nonneg i) (Exists.intro _ (And.intro (mrow_at hm1) ?_))
  first | refine Exists.intro _ (And.intro (v) ?_) | refine Hn_by (Exists.intro _ (And.intro (v) ?_))
  cases hf : fnd (m.st,m.co) ins 0 with
  | none =>
   rw [tgP_bad (k:=i + 1) (e1.trans (by unfold tstep; simp only [hf]))]
   refine gr (fun _ => ?_) (fun e => absurd (by rw [inI_none hf]; decide) e)
   repeat (first | refine gT ?_ | refine gF ?_ | refine brT ?_ | refine brF ?_)
   exact And.intro (Or.inr rfl) rfl
  | some n =>
   have hin:=inI_some hf
   refine gr (fun e => absurd e (by rw [hin]; omega)) (fun _ => ?_)
   repeat (first | refine gT ?_ | refine gF ?_ | refine brT ?_ | refine brF ?_)
   refine And.intro (Int.natCast_nonneg i) (Exists.intro _ (And.intro (mrow_at hm1) ?_))
   repeat (first | refine gT ?_ | refine gF ?_ | refine brT ?_ | refine brF ?_)
   cases hq : qB m.to with
   | false =>
    rw [hq] at q
    first | refine Exists.intro _ (And.intro (q) ?_) | refine Hn_by (Exists.intro _ (And.intro (q) ?_))
    rw [tgP_bad (k:=i + 1) (e1.trans (by unfold tstep; simp only [hf]; rw [if_pos (.inr hq)]))]
    repeat (first | refine gT ?_ | refine gF ?_ | refine brT ?_ | refine brF ?_)
    exact And.intro (Or.inr rfl) rfl
   | true =>
    rw [hq] at q
    first | refine Exists.intro _ (And.intro (q) ?_) | refine Hn_by (Exists.intro _ (And.intro (q) ?_))
    repeat (first | refine gT ?_ | refine gF ?_ | refine brT ?_ | refine brF ?_)
    refine aw_loopN 0 (fun k : Nat => stOf [(0,insv ins),(1,mvv ms),(5,.int .i64 (i : Int)),(6,.int .i64 (k : Int))] [] 0) (fun k => k <= i ∧ n ∉ tg.take k) (fun k => i - k) 0 ⟨Nat.zero_le _,by simp⟩
     (.inl (le_by ⟨rfl,rfl,rfl,rfl,trivial⟩ trivial (Nat.le_refl _))) (by kernel_rfl) ?_
    rintro k ⟨hki,hnt⟩ P2 hP2
    refine br (fun g2 => ?_) (fun g2 => ?_)
    ·have g2 : k < i:=by have : (k : Int) < (i : Int):=g2; omega
     obtain ⟨o,ho⟩:=get_of (l:=ms) (i:=k) (by omega)
     obtain ⟨j,hj⟩:=get_of (l:=tg) (i:=k) (by omega)
     have hoj:=t2 k j o hj (by rw [List.getElem?_take_of_lt g2]; exact ho)
     have v2:=input_spec (ins:=ins) (m:=o) hi
     have hjn:=inI_some hoj
     refine And.intro (by kernel_rfl) ?_
     refine And.intro (Int.natCast_nonneg k) (Exists.intro _ (And.intro (mrow_at ho) ?_))
     first | refine Exists.intro _ (And.intro (v2) ?_) | refine Hn_by (Exists.intro _ (And.intro (v2) ?_))
     refine And.intro (Int.natCast_nonneg i) (Exists.intro _ (And.intro (mrow_at hm1) ?_))
     first | refine Exists.intro _ (And.intro (v) ?_) | refine Hn_by (Exists.intro _ (And.intro (v) ?_))
     refine brE (fun e => ?_) (fun ne => ?_)
     ·have ejn : j = n:=by rw [hjn,hin] at e; omega
      rw [tgP_bad (k:=i + 1) (e1.trans (by unfold tstep; simp only [hf]; rw [if_pos (.inl (by rw [<- ejn]; exact List.mem_of_getElem? hj))]))]
      exact And.intro (Or.inr rfl) rfl
     ·refine hP2 (k + 1) _ ?_ ⟨g2,fun h => ?_⟩ (by omega)
      ·refine .inl (le_by ⟨rfl,rfl,rfl,int_eq ?_,trivial⟩ trivial (Nat.le_refl _))
       exact w64_succ g2 (by omega)
      ·rw [take_snc2 hj] at h
       rcases List.mem_append.1 h with h | h
       ·exact hnt h
       ·rw [List.mem_singleton.1 h] at hin
        exact ne (by rw [hjn,hin])
    ·have g2 : ¬ k < i:=by have : ¬ (k : Int) < (i : Int):=g2; omega
     rw [List.take_of_length_le (by omega)] at hnt
     refine hP (i + 1) _ ?_ ⟨g,?_⟩ (by omega)
     ·refine .inl (le_by ⟨rfl,rfl,int_eq ?_,trivial⟩ trivial (Nat.le_refl _))
      exact w64_succ g hl
     ·rw [e1]
      unfold tstep
      simp only [hf]
      rw [if_neg (by rw [hq]; simp [hnt])]
      rfl
 ·have g : ¬ i < ms.length:=by have : ¬ (i : Int) < ((ms.map mrow).length : Int):=g; rw [mrow_len] at this; omega
  rw [List.take_of_length_le (by omega)] at hs
  rw [hs]
  exact And.intro (Or.inr rfl) rfl
theorem rafter_spec {ins : List Pr} {p : Ps} {ms : List Mv} {tg : List Nat} (hi : ins.length <= 20) (h : Okp p) (hl : p.length = ins.length) (ht : tgP ins ms = some tg) (hq : ∀ m ∈ ms,Qok m.to) (hml : ms.length <= 200) :
  Spec Tryz.prog [] 53 [insv ins,.sl p,mvv ms] (.sl (aftL p (tg.zip ms))):=by
 obtain ⟨t1,t2,t3⟩:=tgP_ok ht
 refine spec_fn T_ok mixed_ok 0 Tryz.func53 fn_ok53 (by kernel_rfl) ?_
 refine And.intro rfl (And.intro (rowsOk4 h.qd) (And.intro (show (0 + p.length) * 64 <= 140737488355328 by omega) (And.intro (show 0 + p.length <= maxLen by simp only [maxLen]; omega) ?_)))
 refine aw_loopN 2 (fun k : Nat => stOf [(0,insv ins),(2,mvv ms),(7,.ms 1 0 p.length),(8,.int .i64 (k : Int))] [(1,.arr (67,4) (aftL p ((tg.zip ms).take k)) true)] 2) (fun k => k <= ms.length) (fun k => ms.length - k) 0 (Nat.zero_le _)
  (.inl (le_by ⟨rfl,rfl,(show AV.ms 1 0 (0 + p.length) = _ by rw [Nat.zero_add]),rfl,trivial⟩ ⟨rfl,trivial⟩ (Nat.le_refl _))) (by kernel_rfl) ?_
 intro k hk P hP
 refine br (fun g => ?_) (fun g => ?_)
 ·have g : k < ms.length:=by have : (k : Int) < ((ms.map mrow).length : Int):=g; rw [mrow_len] at this; omega
  obtain ⟨m,hm⟩:=get_of g
  obtain ⟨n,hn⟩:=get_of (l:=tg) (i:=k) (by omega)
  have hf:=t2 k n m hn hm
  have hlt : n < p.length:=by have:=(fnd_lt hf).2; omega
  have v:=input_spec (ins:=ins) (m:=m) (by omega)
  rw [inI_some hf] at v
  refine And.intro (by kernel_rfl) ?_
  refine And.intro (Int.natCast_nonneg k) (Exists.intro _ (And.intro (mrow_at hm) ?_))
  first | refine Exists.intro _ (And.intro (v) ?_) | refine Hn_by (Exists.intro _ (And.intro (v) ?_))
  refine And.intro (Int.natCast_nonneg k) (Exists.intro _ (And.intro (mrow_at hm) ?_))
  refine And.intro (Int.natCast_nonneg n) (And.intro (show (n : Int) < (p.length : Int) by omega) ?_)
  obtain ⟨o,ho⟩:=get_of (l:=aftL p ((tg.zip ms).take k)) (i:=n) (by rw [aftL_len]; exact hlt)
  obtain ⟨nn,nl,dn,dl,rfl,_,_⟩:=(aftL_ok h (fun x hx => zip_to hq x (List.mem_of_mem_take hx))).qd o (List.mem_of_getElem? ho)
  refine Exists.intro _ (And.intro (show (aftL p ((tg.zip ms).take k))[0 + (n : Int).toNat]? = some [.bool nn,lim nl,.bool dn,lim dl] by rw [Nat.zero_add,Int.toNat_natCast]; exact ho) ?_)
  refine hP (k + 1) _ ?_ g (by omega)
  refine .inl (le_by ⟨rfl,rfl,rfl,int_eq ?_,trivial⟩ ⟨?_,trivial⟩ (Nat.le_refl _))
  ·exact w64_succ g (by omega)
  ·show some (Blk.arr (67,4) ((aftL p ((tg.zip ms).take k)).set (0 + (n : Int).toNat) m.to) true) = _
   rw [Nat.zero_add,Int.toNat_natCast,zip_snoc hn hm,aftL_snoc]
 have g : ¬ k < ms.length:=by have : ¬ (k : Int) < ((ms.map mrow).length : Int):=g; rw [mrow_len] at this; omega
 have e : (tg.zip ms).take k = tg.zip ms:=List.take_of_length_le (by rw [List.length_zip]; omega)
 rw [e]
 refine And.intro (Or.inr rfl) ?_
 refine And.intro (show 0 + p.length <= (aftL p (tg.zip ms)).length by rw [aftL_len]; omega) (congrArg AV.sl ?_)
 rw [List.drop_zero,List.take_of_length_le (by rw [aftL_len]; exact Nat.le_refl _)]
end Ab
end
section
open Go Go.Proofs
namespace Ab
set_option maxRecDepth 100000
set_option maxHeartbeats 1000000
def entP : Nat -> List Pr -> List (Pr × AV)
 | _,[] => []
 | i,p :: l => (p,.int .i64 (i : Int)) :: entP (i + 1) l
theorem entP_snoc : ∀ {i : Nat} {l : List Pr} {p : Pr},entP i (l ++ [p]) = entP i l ++ [(p,.int .i64 ((i + l.length : Nat) : Int))]
 | i,[],p => rfl
 | i,q :: l,p => by
  rw [List.cons_append,entP,entP_snoc,entP,List.cons_append,List.length_cons,show i + 1 + l.length = i + (l.length + 1) by omega]
theorem entP_mem : ∀ {i : Nat} {l : List Pr} {e : Pr × AV},e ∈ entP i l -> e.1 ∈ l
 | _,[],_,h => by cases h
 | i,p :: l,e,h => by
  rw [entP] at h
  rcases List.mem_cons.1 h with rfl | h
  ·simp
  ·exact List.mem_cons_of_mem _ (entP_mem h)
theorem eqP_iff {x y : Pr} : eqP x y = true ↔ x = y:=by
 unfold eqP
 obtain ⟨a,b⟩:=x
 obtain ⟨c,d⟩:=y
 simp
theorem setP_new {p : Pr} {v : AV} : ∀ {es : List (Pr × AV)},(∀ e ∈ es,e.1 ≠ p) -> setP p v es = es ++ [(p,v)]
 | [],_ => rfl
 | (k,u) :: es,h => by
  have : eqP p k = false:=by
   cases hb : eqP p k with
   | false => rfl
   | true => exact absurd (eqP_iff.1 hb).symm (h (k,u) (by simp))
  unfold setP
  simp only [this]
  rw [setP_new fun e he => h e (by simp [he])]
  rfl
theorem findP_ent {q : Pr} : ∀ {l : List Pr} {i : Nat},findP q (entP i l) = (fnd q l i).map fun n => AV.int .i64 (n : Int)
 | [],_ => rfl
 | p :: l,i => by
  unfold entP findP fnd
  by_cases h : p.1 = q.1 ∧ p.2 = q.2
  ·have : q = p:=by obtain ⟨a,b⟩:=p; obtain ⟨c,d⟩:=q; simp only at h; rw [h.1,h.2]
   rw [if_pos h,eqP_iff.2 this]
   rfl
  ·have : eqP q p = false:=by
    cases hb : eqP q p with
    | false => rfl
    | true => rw [eqP_iff.1 hb] at h; exact absurd ⟨rfl,rfl⟩ h
   rw [if_neg h]
   simp only [this]
   exact findP_ent
theorem insP_ge : ∀ {i : Nat} {l : List Sp} {p : Pr},p ∈ insP i l -> (i : Int) <= p.1
 | _,[],_,h => by cases h
 | i,s :: l,p,h => by
  rw [insP] at h
  rcases List.mem_append.1 h with h | h
  ·unfold ins1 at h
   split at h
   ·simp only [List.mem_cons,List.not_mem_nil,or_false] at h
    rcases h with rfl | rfl <;> exact Int.le_refl _
   ·split at h
    ·rw [List.mem_singleton.1 h]; exact Int.le_refl _
    ·cases h
  ·have:=insP_ge h
   omega
theorem insP_nodup : ∀ {i : Nat} {l : List Sp},(insP i l).Nodup
 | _,[] => List.nodup_nil
 | i,s :: l => by
  rw [insP,List.nodup_append]
  refine ⟨?_,insP_nodup,fun p hp q hq e => ?_⟩
  ·unfold ins1
   split
   ·simp
   ·split <;> simp
  ·have h1:=insP_ge hq
   rw [<- e] at h1
   unfold ins1 at hp
   split at hp
   ·simp only [List.mem_cons,List.not_mem_nil,or_false] at hp
    rcases hp with rfl | rfl <;> (simp only at h1; omega)
   ·split at hp
    ·rw [List.mem_singleton.1 hp] at h1; simp only at h1; omega
    ·cases hp
theorem ent_new {l : List Sp} {k : Nat} {p : Pr} (h : (insP 0 l)[k]? = some p) : setP p (.int .i64 (k : Int)) (entP 0 ((insP 0 l).take k)) = entP 0 ((insP 0 l).take (k + 1)):=by
 have g:=(List.getElem?_eq_some_iff.1 h).1
 rw [take_snc2 h,entP_snoc,setP_new]
 ·rw [List.length_take,Nat.zero_add,Nat.min_eq_left (by omega)]
 ·intro e he e2
  have h1:=entP_mem he
  rw [e2] at h1
  have nd:=insP_nodup (i:=0) (l:=l)
  rw [<- List.take_append_drop k (insP 0 l),List.drop_eq_getElem_cons g,List.nodup_append] at nd
  have e3 : (insP 0 l)[k] = p:=by rw [List.getElem?_eq_getElem g] at h; exact Option.some.inj h
  exact nd.2.2 p h1 ((insP 0 l)[k]) List.mem_cons_self e3.symm
theorem inputs_in {l : List Sp} (h : SpsOk l) (hl : (l.length : Int) <= 60) (hc : chkS l = 0) {tm : Nat -> AV} {K : AV -> St -> Prop} (n : Nat)
  (hK : K (.tup [.mv 0,.int .i64 0]) ⟨tm,fun k => look [(0,Blk.mp (entP 0 (insP 0 l)))] k,1⟩) : Hn Tryz.prog T [] (n + 1) (.fn 46) [stpv l] ⟨tm,fun _ => none,0⟩ K:=by
 have v:=Inputs_spec h hl
 unfold insF at v
 rw [if_pos hc] at v
 have li : (insP 0 l).length <= 120:=by have:=insP_len (i:=0) (l:=l); omega
 refine Hn_in Tryz.f46 Tryz.func46 fn_ok46 (by kernel_rfl) ?_
 first | refine Exists.intro _ (And.intro (v) ?_) | refine Hn_by (Exists.intro _ (And.intro (v) ?_))
 refine brN (fun e => absurd rfl e) (fun _ => ?_)
 refine aw_loopN 1 (fun k : Nat => stOf [(6,.mv 0),(18,insv (insP 0 l)),(19,.int .i64 ((insP 0 l).length : Int)),(20,.int .i64 (k : Int))] [(0,.mp (entP 0 ((insP 0 l).take k)))] 1) (fun k => k <= (insP 0 l).length) (fun k => (insP 0 l).length - k) 0 (Nat.zero_le _)
  (.inl (le_by ⟨rfl,rfl,int_eq (by rw [List.length_map]),rfl,trivial⟩ ⟨rfl,trivial⟩ (Nat.le_refl _))) (by kernel_rfl) ?_
 intro k hk P hP
 refine br (fun g => ?_) (fun g => ?_)
 ·have g : k < (insP 0 l).length:=by have : (k : Int) < ((insP 0 l).length : Int):=g; omega
  obtain ⟨p,hp⟩:=get_of g
  refine And.intro (Int.natCast_nonneg k) (Exists.intro _ (And.intro (prw_at hp) ?_))
  refine hP (k + 1) _ ?_ g (by omega)
  refine leC_by ⟨⟨rfl,rfl⟩,⟨rfl,rfl⟩,⟨rfl,rfl⟩,⟨int_eq ?_,rfl⟩,trivial⟩ ⟨⟨⟨?_,rfl⟩,rfl⟩,trivial⟩ (Nat.le_refl _)
  ·exact w64_succ g (by omega)
  ·exact congrArg (fun x => some (Blk.mp x)) (ent_new hp)
 ·have g : ¬ k < (insP 0 l).length:=by have : ¬ (k : Int) < ((insP 0 l).length : Int):=g; omega
  rw [List.take_of_length_le (by omega)]
  exact And.intro (Or.inr rfl) hK
theorem inputs_bad {l : List Sp} (h : SpsOk l) (hl : (l.length : Int) <= 60) (hc : chkS l ≠ 0) {tm : Nat -> AV} {K : AV -> St -> Prop} (n : Nat)
  (hK : ∀ hp n,K (.tup [.undef,.int .i64 (chkS l)]) ⟨tm,hp,n⟩) : Hn Tryz.prog T [] (n + 1) (.fn 46) [stpv l] ⟨tm,fun _ => none,0⟩ K:=by
 have v:=Inputs_spec h hl
 unfold insF at v
 rw [if_neg hc] at v
 refine Hn_in Tryz.f46 Tryz.func46 fn_ok46 (by kernel_rfl) ?_
 first | refine Exists.intro _ (And.intro (v) ?_) | refine Hn_by (Exists.intro _ (And.intro (v) ?_))
 refine brN (fun _ => ?_) (fun e => absurd e hc)
 exact And.intro (Or.inr rfl) (hK _ _)
end Ab
end
section
open Go Go.Proofs
namespace Ab
set_option maxRecDepth 100000
set_option maxHeartbeats 1000000
def usedB (acc : List Nat) : List AV:=(List.range 20).map fun i => AV.bool (decide (i ∈ acc))
theorem usedB_len (acc : List Nat) : (usedB acc).length = 20:=by simp [usedB]
theorem usedB_at {acc : List Nat} {n : Nat} (h : n < 20) : (usedB acc)[n]? = some (.bool (decide (n ∈ acc))):=by simp [usedB,h]
theorem usedB_set {acc : List Nat} {n : Nat} (h : n < 20) : (usedB acc).set n (.bool true) = usedB (acc ++ [n]):=by
 apply List.ext_getElem?
 intro i
 by_cases hi : i < 20
 ·rw [List.getElem?_set,usedB_at (acc:=acc ++ [n]) hi]
  by_cases e : n = i
  ·subst e
   rw [if_pos rfl,if_pos (by rw [usedB_len]; exact h)]
   simp
  ·rw [if_neg e,usedB_at hi]
   have : (i ∈ acc ++ [n]) ↔ i ∈ acc:=by simp; exact fun e2 => absurd e2.symm e
   simp only [this]
 ·rw [List.getElem?_eq_none (by rw [List.length_set,usedB_len]; omega),List.getElem?_eq_none (by rw [usedB_len]; omega)]
theorem bools_cvs {ρ : Nat -> Nat} {ks : List Nat} {n : Nat} {h : Nat -> Option Blk} {α : Type} {f : α -> Bool} : ∀ (l : List α),cvs ρ ks n h (l.map fun x => AV.bool (f x)) (l.map fun x => AV.bool (f x))
 | [] => by unfold cvs; rfl
 | x :: l => by
  rw [List.map_cons]
  unfold cvs
  exact ⟨_,_,rfl,by unfold cv; rfl,bools_cvs l⟩
theorem bools_ones {α : Type} {f : α -> Bool} : ∀ (l : List α),ones (l.map fun x => AV.bool (f x)) = true
 | [] => rfl
 | x :: l => by rw [List.map_cons]; exact bools_ones l
theorem usedB_cvs {ρ : Nat -> Nat} {ks : List Nat} {n : Nat} {h : Nat -> Option Blk} {acc : List Nat} : cvs ρ ks n h (usedB acc) (usedB acc):=bools_cvs _
theorem usedB_ones {acc : List Nat} : ones (usedB acc) = true:=bools_ones _
theorem lkS {x : Pr} {es : List (Pr × AV)} {v : AV} {A : AV -> Prop} {B : Prop} (h : findP x es = some v) (a : A v) : (match (generalizing:=false) findP x es with | some v => A v | none => B):=by rw [h]; exact a
theorem lkN {x : Pr} {es : List (Pr × AV)} {A : AV -> Prop} {B : Prop} (h : findP x es = none) (b : B) : (match (generalizing:=false) findP x es with | some v => A v | none => B):=by rw [h]; exact b
theorem rdS {row : List AV} {o : Nat} {b : Bool} {K : AV -> Prop} (h : row[o]? = some (.bool b)) (a : K (.bool b)) : (match (generalizing:=false) nth row o with | some v => force v K | none => False):=by rw [nth_eq,h]; exact a
def nacV (j : Nat) : List Nat -> AV
 | [] => .nil
 | p :: q => .ms j 0 (p :: q).length
def nacH (j : Nat) : List Nat -> List (Nat × Blk)
 | [] => []
 | p :: q => [(j,.arr (3,1) (irows .i64 (natI (p :: q))) true)]
theorem targ_ok1 {ins : List Pr} {ms : List Mv} {tg : List Nat} (hi : ins.length <= 20) (hm : MvsOk ms) (hl : ms.length <= 200) (ht : tgP ins ms = some tg) {tm : Nat -> AV} {hp : Nat -> Option Blk} {K : AV -> St -> Prop} (n : Nat) (h0 : hp 0 = some (.mp (entP 0 ins)))
  (hK : K (.tup [nacV 2 tg,.bool true]) ⟨tm,fun k => look ((0,Blk.mp (entP 0 ins)) :: (1,.box (usedB tg)) :: nacH 2 tg) k,3⟩) : Hn Tryz.prog T [] (n + 1) (.fn 47) [.mv 0,mvv ms] ⟨tm,hp,1⟩ K:=by
 refine Hn_in Tryz.f47 Tryz.func47 fn_ok47 (by kernel_rfl) ?_
 refine aw_loopN (1 + 1) (fun x : Nat × List Nat => stOf [(0,.mv 0),(1,mvv ms),(6,.bp 1 0),(7,nacV 2 x.2),(12,mvv ms),(13,.int .i64 (ms.length : Int)),(14,.int .i64 (x.1 : Int))] ((0,.mp (entP 0 ins)) ::  ((1,.box (usedB x.2)) :: nacH 2 x.2)) 3) (fun x => x.1 <= ms.length ∧ tgP ins (ms.take x.1) = some x.2) (fun x => ms.length - x.1) (0,[]) ⟨Nat.zero_le _,rfl⟩
  (.inl (le_by ⟨rfl,rfl,rfl,rfl,rfl,int_eq (by first | rfl | rw [mrow_len]),rfl,trivial⟩ ⟨h0,  rfl,trivial⟩ (Nat.le_succ (1 + 1)))) (by kernel_rfl) ?_
 rintro ⟨k,acc⟩ ⟨hk,hs⟩ P hP
 dsimp only at hk hs
 refine br (fun g => ?_) (fun g => ?_)
 ·have gk : k < ms.length:=by have : (k : Int) < (ms.length : Int):=g; omega
  obtain ⟨m,hm1⟩:=get_of gk
  have e1 : tgP ins (ms.take (k + 1)) = tstep ins (some acc) m:=by rw [take_snc2 hm1,tgP_snoc,hs]
  have q:=(qvalid_tot [] (hm m (List.mem_of_getElem? hm1))).1
  have hw:=w64_succ gk (by omega)
  have hfp:=findP_ent (q:=(m.st,m.co)) (l:=ins) (i:=0)
  cases hf : fnd (m.st,m.co) ins 0 with
  | none =>
   rw [tgP_bad (k:=k + 1) (e1.trans (by unfold tstep; simp only [hf]))] at ht
   cases ht
  | some j =>
  have hj : j < 20:=by have:=(fnd_lt hf).2; omega
  by_cases hc : j ∈ acc ∨ qB m.to = false
  ·rw [tgP_bad (k:=k + 1) (e1.trans (by unfold tstep; simp only [hf]; rw [if_pos hc]))] at ht
   cases ht
  have hja : j ∉ acc:=fun h => hc (.inl h)
  have hq : qB m.to = true:=by
   cases hb : qB m.to with
   | true => rfl
   | false => exact absurd (.inr hb) hc
  rw [hq] at q
  rw [hf] at hfp
  have e2 : tgP ins (ms.take (k + 1)) = some (acc ++ [j]):=e1.trans (by unfold tstep; simp only [hf]; rw [if_neg hc])
  have hln : acc.length <= 200:=by have:=(tgP_ok hs).1; rw [List.length_take] at this; omega
  have hused : (usedB acc)[0 + ((j : Int)).toNat * 1]? = some (.bool false):=by rw [Nat.zero_add,Int.toNat_natCast,Nat.mul_one,usedB_at hj,decide_eq_false hja]
  have husd : ∀ l : List Nat,(usedB l).set (0 + ((j : Int)).toNat * 1) (.bool true) = usedB (l ++ [j]):=fun l => by rw [Nat.zero_add,Int.toNat_natCast,Nat.mul_one,usedB_set hj]
  have hP:=hP (k + 1,acc ++ [j])
  dsimp only at hP
  match acc with
  | [] =>
   refine And.intro (Int.natCast_nonneg k) (Exists.intro _ (And.intro (mrow_at hm1) ?_))
   skip
   refine lkS hfp ?_
   repeat (first | refine gT ?_ | refine gF ?_ | refine brT ?_ | refine brF ?_)
   refine And.intro (Int.natCast_nonneg j) (And.intro (show (j : Int) < (20 : Nat) by omega) ?_)
   repeat (first | refine gT ?_ | refine gF ?_ | refine brT ?_ | refine brF ?_)
   refine rdS hused ?_
   repeat (first | refine gT ?_ | refine gF ?_ | refine brT ?_ | refine brF ?_)
   first | refine Exists.intro _ (And.intro (q) ?_) | refine Hn_by (Exists.intro _ (And.intro (q) ?_))
   repeat (first | refine gT ?_ | refine gF ?_ | refine brT ?_ | refine brF ?_)
   refine And.intro (Int.natCast_nonneg j) (And.intro (show (j : Int) < (20 : Nat) by omega) ?_)
   refine mT (show Nat.ble ((0 + ((j : Int)).toNat * 1) + 1) (lenL (usedB [])) = true from ble_len (by rw [usedB_len]; omega)) ?_
   refine forceL_by (set_app (0 + ((j : Int)).toNat * 1) (usedB []) (.bool true) (by rw [usedB_len]; omega)) ?_
   refine And.intro (by decide) (And.intro (by decide) (And.intro (by decide) (And.intro (Nat.le_refl 1) ?_)))
   refine hP _ ?_ ⟨gk,e2⟩ (by omega)
   refine leR_by [(2,5)] [] rfl rfl (by decide) ⟨⟨by decide,rfl⟩,.inl rfl,⟨by decide,rfl⟩,⟨by decide,by kernel_rfl⟩,.inl rfl,rfl,int_eq hw,trivial⟩ ⟨⟨rfl,trivial,rfl⟩,  ⟨rfl,usedB_ones,⟨_,?_,usedB_cvs⟩⟩,⟨rfl,trivial,?_⟩,trivial⟩
   ·exact congrArg (fun x => some (Blk.box x)) (husd [])
   ·rfl
  | p :: r =>
   refine And.intro (Int.natCast_nonneg k) (Exists.intro _ (And.intro (mrow_at hm1) ?_))
   skip
   refine lkS hfp ?_
   repeat (first | refine gT ?_ | refine gF ?_ | refine brT ?_ | refine brF ?_)
   refine And.intro (Int.natCast_nonneg j) (And.intro (show (j : Int) < (20 : Nat) by omega) ?_)
   repeat (first | refine gT ?_ | refine gF ?_ | refine brT ?_ | refine brF ?_)
   refine rdS hused ?_
   repeat (first | refine gT ?_ | refine gF ?_ | refine brT ?_ | refine brF ?_)
   first | refine Exists.intro _ (And.intro (q) ?_) | refine Hn_by (Exists.intro _ (And.intro (q) ?_))
   repeat (first | refine gT ?_ | refine gF ?_ | refine brT ?_ | refine brF ?_)
   refine And.intro (Int.natCast_nonneg j) (And.intro (show (j : Int) < (20 : Nat) by omega) ?_)
   refine mT (show Nat.ble ((0 + ((j : Int)).toNat * 1) + 1) (lenL (usedB (p :: r))) = true from ble_len (by rw [usedB_len]; omega)) ?_
   refine forceL_by (set_app (0 + ((j : Int)).toNat * 1) (usedB (p :: r)) (.bool true) (by rw [usedB_len]; omega)) ?_
   refine And.intro (show (p :: r).length = (irows .i64 (natI (p :: r))).length by rw [irows_len,natI_len]) (And.intro (Nat.le_refl 1) (And.intro (show ((p :: r).length + 1) * 8 <= 140737488355328 by omega) (And.intro (show (p :: r).length + 1 <= maxLen by simp only [maxLen]; omega) ?_)))
   refine hP _ ?_ ⟨gk,e2⟩ (by omega)
   refine leR_by [(2,5)] [] rfl rfl (by decide) ⟨⟨by decide,rfl⟩,.inl rfl,⟨by decide,rfl⟩,⟨by decide,?_⟩,.inl rfl,rfl,int_eq hw,trivial⟩ ⟨⟨rfl,trivial,rfl⟩,  ⟨rfl,usedB_ones,⟨_,?_,usedB_cvs⟩⟩,⟨rfl,trivial,?_⟩,trivial⟩
   ·show AV.ms 5 0 ((p :: r).length + 1) = AV.ms 5 0 ((p :: r) ++ [j]).length
    rw [List.length_append]; rfl
   ·exact congrArg (fun x => some (Blk.box x)) (husd (p :: r))
   ·show some (Blk.arr (3,1) (irows .i64 (natI (p :: r)) ++ [[.int .i64 (j : Int)]]) true) = some (Blk.arr (3,1) (irows .i64 (natI ((p :: r) ++ [j]))) true)
    unfold irows natI
    rw [List.map_append,List.map_append]; rfl
 ·have gk : ¬ k < ms.length:=by have : ¬ (k : Int) < (ms.length : Int):=g; omega
  rw [List.take_of_length_le (by omega),ht] at hs
  cases hs
  match tg with
  | [] => exact And.intro (Or.inr rfl) hK
  | p :: r => exact And.intro (Or.inr rfl) hK
theorem targ_bad1 {ins : List Pr} {ms : List Mv} (hi : ins.length <= 20) (hm : MvsOk ms) (hl : ms.length <= 200) (ht : tgP ins ms = none) {tm : Nat -> AV} {hp : Nat -> Option Blk} {K : AV -> St -> Prop} (n : Nat) (h0 : hp 0 = some (.mp (entP 0 ins)))
  (hK : ∀ hp',hp' 0 = some (.mp (entP 0 ins)) -> K (.tup [.nil,.bool false]) ⟨tm,hp',1⟩) : Hn Tryz.prog T [] (n + 1) (.fn 47) [.mv 0,mvv ms] ⟨tm,hp,1⟩ K:=by
 refine Hn_cut Tryz.f47 Tryz.func47 fn_ok47 (by kernel_rfl) ?_
 refine aw_loopN (1 + 1) (fun x : Nat × List Nat => stOf [(0,.mv 0),(1,mvv ms),(6,.bp 1 0),(7,nacV 2 x.2),(12,mvv ms),(13,.int .i64 (ms.length : Int)),(14,.int .i64 (x.1 : Int))] ((0,.mp (entP 0 ins)) ::  ((1,.box (usedB x.2)) :: nacH 2 x.2)) 3) (fun x => x.1 <= ms.length ∧ tgP ins (ms.take x.1) = some x.2) (fun x => ms.length - x.1) (0,[]) ⟨Nat.zero_le _,rfl⟩
  (.inl (le_by ⟨rfl,rfl,rfl,rfl,rfl,int_eq (by first | rfl | rw [mrow_len]),rfl,trivial⟩ ⟨h0,  rfl,trivial⟩ (Nat.le_succ (1 + 1)))) (by kernel_rfl) ?_
 rintro ⟨k,acc⟩ ⟨hk,hs⟩ P hP
 dsimp only at hk hs
 refine br (fun g => ?_) (fun g => ?_)
 ·have gk : k < ms.length:=by have : (k : Int) < (ms.length : Int):=g; omega
  obtain ⟨m,hm1⟩:=get_of gk
  have e1 : tgP ins (ms.take (k + 1)) = tstep ins (some acc) m:=by rw [take_snc2 hm1,tgP_snoc,hs]
  have q:=(qvalid_tot [] (hm m (List.mem_of_getElem? hm1))).1
  have hw:=w64_succ gk (by omega)
  have hfp:=findP_ent (q:=(m.st,m.co)) (l:=ins) (i:=0)
  cases hf : fnd (m.st,m.co) ins 0 with
  | none =>
   rw [hf] at hfp
   refine And.intro (Int.natCast_nonneg k) (Exists.intro _ (And.intro (mrow_at hm1) ?_))
   skip
   refine lkN hfp ?_
   repeat (first | refine gT ?_ | refine gF ?_ | refine brT ?_ | refine brF ?_)
   cases acc <;> exact And.intro (Or.inr rfl) (And.intro rfl (And.intro (cleanB_ok (by kernel_rfl)) (hK _ rfl)))
  | some j =>
  have hj : j < 20:=by have:=(fnd_lt hf).2; omega
  rw [hf] at hfp
  have hused : (usedB acc)[0 + ((j : Int)).toNat * 1]? = some (.bool (decide (j ∈ acc))):=by rw [Nat.zero_add,Int.toNat_natCast,Nat.mul_one,usedB_at hj]
  by_cases hja : j ∈ acc
  ·rw [decide_eq_true hja] at hused
   refine And.intro (Int.natCast_nonneg k) (Exists.intro _ (And.intro (mrow_at hm1) ?_))
   skip
   refine lkS hfp ?_
   repeat (first | refine gT ?_ | refine gF ?_ | refine brT ?_ | refine brF ?_)
   refine And.intro (Int.natCast_nonneg j) (And.intro (show (j : Int) < (20 : Nat) by omega) ?_)
   repeat (first | refine gT ?_ | refine gF ?_ | refine brT ?_ | refine brF ?_)
   refine rdS hused ?_
   repeat (first | refine gT ?_ | refine gF ?_ | refine brT ?_ | refine brF ?_)
   cases acc <;> exact And.intro (Or.inr rfl) (And.intro rfl (And.intro (cleanB_ok (by kernel_rfl)) (hK _ rfl)))
  rw [decide_eq_false hja] at hused
  cases hq : qB m.to with
  | false =>
   rw [hq] at q
   refine And.intro (Int.natCast_nonneg k) (Exists.intro _ (And.intro (mrow_at hm1) ?_))
   skip
   refine lkS hfp ?_
   repeat (first | refine gT ?_ | refine gF ?_ | refine brT ?_ | refine brF ?_)
   refine And.intro (Int.natCast_nonneg j) (And.intro (show (j : Int) < (20 : Nat) by omega) ?_)
   repeat (first | refine gT ?_ | refine gF ?_ | refine brT ?_ | refine brF ?_)
   refine rdS hused ?_
   repeat (first | refine gT ?_ | refine gF ?_ | refine brT ?_ | refine brF ?_)
   first | refine Exists.intro _ (And.intro (q) ?_) | refine Hn_by (Exists.intro _ (And.intro (q) ?_))
   repeat (first | refine gT ?_ | refine gF ?_ | refine brT ?_ | refine brF ?_)
   cases acc <;> exact And.intro (Or.inr rfl) (And.intro rfl (And.intro (cleanB_ok (by kernel_rfl)) (hK _ rfl)))
  | true =>
  rw [hq] at q
  have hc : ¬ (j ∈ acc ∨ qB m.to = false):=by rw [hq]; simp [hja]
  have e2 : tgP ins (ms.take (k + 1)) = some (acc ++ [j]):=e1.trans (by unfold tstep; simp only [hf]; rw [if_neg hc])
  have hln : acc.length <= 200:=by have:=(tgP_ok hs).1; rw [List.length_take] at this; omega
  have husd : ∀ l : List Nat,(usedB l).set (0 + ((j : Int)).toNat * 1) (.bool true) = usedB (l ++ [j]):=fun l => by rw [Nat.zero_add,Int.toNat_natCast,Nat.mul_one,usedB_set hj]
  have hP:=hP (k + 1,acc ++ [j])
  dsimp only at hP
  match acc with
  | [] =>
   refine And.intro (Int.natCast_nonneg k) (Exists.intro _ (And.intro (mrow_at hm1) ?_))
   skip
   refine lkS hfp ?_
   repeat (first | refine gT ?_ | refine gF ?_ | refine brT ?_ | refine brF ?_)
   refine And.intro (Int.natCast_nonneg j) (And.intro (show (j : Int) < (20 : Nat) by omega) ?_)
   repeat (first | refine gT ?_ | refine gF ?_ | refine brT ?_ | refine brF ?_)
   refine rdS hused ?_
   repeat (first | refine gT ?_ | refine gF ?_ | refine brT ?_ | refine brF ?_)
   first | refine Exists.intro _ (And.intro (q) ?_) | refine Hn_by (Exists.intro _ (And.intro (q) ?_))
   repeat (first | refine gT ?_ | refine gF ?_ | refine brT ?_ | refine brF ?_)
   refine And.intro (Int.natCast_nonneg j) (And.intro (show (j : Int) < (20 : Nat) by omega) ?_)
   refine mT (show Nat.ble ((0 + ((j : Int)).toNat * 1) + 1) (lenL (usedB [])) = true from ble_len (by rw [usedB_len]; omega)) ?_
   refine forceL_by (set_app (0 + ((j : Int)).toNat * 1) (usedB []) (.bool true) (by rw [usedB_len]; omega)) ?_
   refine And.intro (by decide) (And.intro (by decide) (And.intro (by decide) (And.intro (Nat.le_refl 1) ?_)))
   refine hP _ ?_ ⟨gk,e2⟩ (by omega)
   refine leR_by [(2,5)] [] rfl rfl (by decide) ⟨⟨by decide,rfl⟩,.inl rfl,⟨by decide,rfl⟩,⟨by decide,by kernel_rfl⟩,.inl rfl,rfl,int_eq hw,trivial⟩ ⟨⟨rfl,trivial,rfl⟩,  ⟨rfl,usedB_ones,⟨_,?_,usedB_cvs⟩⟩,⟨rfl,trivial,?_⟩,trivial⟩
   ·exact congrArg (fun x => some (Blk.box x)) (husd [])
   ·rfl
  | p :: r =>
   refine And.intro (Int.natCast_nonneg k) (Exists.intro _ (And.intro (mrow_at hm1) ?_))
   skip
   refine lkS hfp ?_
   repeat (first | refine gT ?_ | refine gF ?_ | refine brT ?_ | refine brF ?_)
   refine And.intro (Int.natCast_nonneg j) (And.intro (show (j : Int) < (20 : Nat) by omega) ?_)
   repeat (first | refine gT ?_ | refine gF ?_ | refine brT ?_ | refine brF ?_)
   refine rdS hused ?_
   repeat (first | refine gT ?_ | refine gF ?_ | refine brT ?_ | refine brF ?_)
   first | refine Exists.intro _ (And.intro (q) ?_) | refine Hn_by (Exists.intro _ (And.intro (q) ?_))
   repeat (first | refine gT ?_ | refine gF ?_ | refine brT ?_ | refine brF ?_)
   refine And.intro (Int.natCast_nonneg j) (And.intro (show (j : Int) < (20 : Nat) by omega) ?_)
   refine mT (show Nat.ble ((0 + ((j : Int)).toNat * 1) + 1) (lenL (usedB (p :: r))) = true from ble_len (by rw [usedB_len]; omega)) ?_
   refine forceL_by (set_app (0 + ((j : Int)).toNat * 1) (usedB (p :: r)) (.bool true) (by rw [usedB_len]; omega)) ?_
   refine And.intro (show (p :: r).length = (irows .i64 (natI (p :: r))).length by rw [irows_len,natI_len]) (And.intro (Nat.le_refl 1) (And.intro (show ((p :: r).length + 1) * 8 <= 140737488355328 by omega) (And.intro (show (p :: r).length + 1 <= maxLen by simp only [maxLen]; omega) ?_)))
   refine hP _ ?_ ⟨gk,e2⟩ (by omega)
   refine leR_by [(2,5)] [] rfl rfl (by decide) ⟨⟨by decide,rfl⟩,.inl rfl,⟨by decide,rfl⟩,⟨by decide,?_⟩,.inl rfl,rfl,int_eq hw,trivial⟩ ⟨⟨rfl,trivial,rfl⟩,  ⟨rfl,usedB_ones,⟨_,?_,usedB_cvs⟩⟩,⟨rfl,trivial,?_⟩,trivial⟩
   ·show AV.ms 5 0 ((p :: r).length + 1) = AV.ms 5 0 ((p :: r) ++ [j]).length
    rw [List.length_append]; rfl
   ·exact congrArg (fun x => some (Blk.box x)) (husd (p :: r))
   ·show some (Blk.arr (3,1) (irows .i64 (natI (p :: r)) ++ [[.int .i64 (j : Int)]]) true) = some (Blk.arr (3,1) (irows .i64 (natI ((p :: r) ++ [j]))) true)
    unfold irows natI
    rw [List.map_append,List.map_append]; rfl
 ·have gk : ¬ k < ms.length:=by have : ¬ (k : Int) < (ms.length : Int):=g; omega
  rw [List.take_of_length_le (by omega),ht] at hs
  cases hs
def NH (hp : Nat -> Option Blk) (j : Nat) : List Nat -> Prop
 | [] => True
 | p :: q => hp j = some (.arr (3,1) (irows .i64 (natI (p :: q))) true)
theorem targ_ok2 {ins : List Pr} {ms : List Mv} {a1 tg : List Nat} (hi : ins.length <= 20) (hm : MvsOk ms) (hl : ms.length <= 200) (ht : tgP ins ms = some tg) {tm : Nat -> AV} {hp : Nat -> Option Blk} {K : AV -> St -> Prop} (n : Nat) (h0 : hp 0 = some (.mp (entP 0 ins))) (h2 : NH hp 2 a1)
  (hK : K (.tup [nacV 4 tg,.bool true]) ⟨tm,fun k => look ((0,Blk.mp (entP 0 ins)) :: (nacH 2 a1 ++ ((3,.box (usedB tg)) :: nacH 4 tg))) k,5⟩) : Hn Tryz.prog T [] (n + 1) (.fn 47) [.mv 0,mvv ms] ⟨tm,hp,3⟩ K:=by
 refine Hn_in Tryz.f47 Tryz.func47 fn_ok47 (by kernel_rfl) ?_
 match a1 with
 | [] =>
  refine aw_loopN (3 + 1) (fun x : Nat × List Nat => stOf [(0,.mv 0),(1,mvv ms),(6,.bp 3 0),(7,nacV 4 x.2),(12,mvv ms),(13,.int .i64 (ms.length : Int)),(14,.int .i64 (x.1 : Int))] ((0,.mp (entP 0 ins)) ::  ((3,.box (usedB x.2)) :: nacH 4 x.2)) 5) (fun x => x.1 <= ms.length ∧ tgP ins (ms.take x.1) = some x.2) (fun x => ms.length - x.1) (0,[]) ⟨Nat.zero_le _,rfl⟩
   (.inl (le_by ⟨rfl,rfl,rfl,rfl,rfl,int_eq (by first | rfl | rw [mrow_len]),rfl,trivial⟩ ⟨h0,  rfl,trivial⟩ (Nat.le_succ (3 + 1)))) (by kernel_rfl) ?_
  rintro ⟨k,acc⟩ ⟨hk,hs⟩ P hP
  dsimp only at hk hs
  refine br (fun g => ?_) (fun g => ?_)
  ·have gk : k < ms.length:=by have : (k : Int) < (ms.length : Int):=g; omega
   obtain ⟨m,hm1⟩:=get_of gk
   have e1 : tgP ins (ms.take (k + 1)) = tstep ins (some acc) m:=by rw [take_snc2 hm1,tgP_snoc,hs]
   have q:=(qvalid_tot [] (hm m (List.mem_of_getElem? hm1))).1
   have hw:=w64_succ gk (by omega)
   have hfp:=findP_ent (q:=(m.st,m.co)) (l:=ins) (i:=0)
   cases hf : fnd (m.st,m.co) ins 0 with
   | none =>
    rw [tgP_bad (k:=k + 1) (e1.trans (by unfold tstep; simp only [hf]))] at ht
    cases ht
   | some j =>
   have hj : j < 20:=by have:=(fnd_lt hf).2; omega
   by_cases hc : j ∈ acc ∨ qB m.to = false
   ·rw [tgP_bad (k:=k + 1) (e1.trans (by unfold tstep; simp only [hf]; rw [if_pos hc]))] at ht
    cases ht
   have hja : j ∉ acc:=fun h => hc (.inl h)
   have hq : qB m.to = true:=by
    cases hb : qB m.to with
    | true => rfl
    | false => exact absurd (.inr hb) hc
   rw [hq] at q
   rw [hf] at hfp
   have e2 : tgP ins (ms.take (k + 1)) = some (acc ++ [j]):=e1.trans (by unfold tstep; simp only [hf]; rw [if_neg hc])
   have hln : acc.length <= 200:=by have:=(tgP_ok hs).1; rw [List.length_take] at this; omega
   have hused : (usedB acc)[0 + ((j : Int)).toNat * 1]? = some (.bool false):=by rw [Nat.zero_add,Int.toNat_natCast,Nat.mul_one,usedB_at hj,decide_eq_false hja]
   have husd : ∀ l : List Nat,(usedB l).set (0 + ((j : Int)).toNat * 1) (.bool true) = usedB (l ++ [j]):=fun l => by rw [Nat.zero_add,Int.toNat_natCast,Nat.mul_one,usedB_set hj]
   have hP:=hP (k + 1,acc ++ [j])
   dsimp only at hP
   match acc with
   | [] =>
    refine And.intro (Int.natCast_nonneg k) (Exists.intro _ (And.intro (mrow_at hm1) ?_))
    skip
    refine lkS hfp ?_
    repeat (first | refine gT ?_ | refine gF ?_ | refine brT ?_ | refine brF ?_)
    refine And.intro (Int.natCast_nonneg j) (And.intro (show (j : Int) < (20 : Nat) by omega) ?_)
    repeat (first | refine gT ?_ | refine gF ?_ | refine brT ?_ | refine brF ?_)
    refine rdS hused ?_
    repeat (first | refine gT ?_ | refine gF ?_ | refine brT ?_ | refine brF ?_)
    first | refine Exists.intro _ (And.intro (q) ?_) | refine Hn_by (Exists.intro _ (And.intro (q) ?_))
    repeat (first | refine gT ?_ | refine gF ?_ | refine brT ?_ | refine brF ?_)
    refine And.intro (Int.natCast_nonneg j) (And.intro (show (j : Int) < (20 : Nat) by omega) ?_)
    refine mT (show Nat.ble ((0 + ((j : Int)).toNat * 1) + 1) (lenL (usedB [])) = true from ble_len (by rw [usedB_len]; omega)) ?_
    refine forceL_by (set_app (0 + ((j : Int)).toNat * 1) (usedB []) (.bool true) (by rw [usedB_len]; omega)) ?_
    refine And.intro (by decide) (And.intro (by decide) (And.intro (by decide) (And.intro (Nat.le_refl 1) ?_)))
    refine hP _ ?_ ⟨gk,e2⟩ (by omega)
    refine leR_by [(4,7)] [] rfl rfl (by decide) ⟨⟨by decide,rfl⟩,.inl rfl,⟨by decide,rfl⟩,⟨by decide,by kernel_rfl⟩,.inl rfl,rfl,int_eq hw,trivial⟩ ⟨⟨rfl,trivial,rfl⟩,  ⟨rfl,usedB_ones,⟨_,?_,usedB_cvs⟩⟩,⟨rfl,trivial,?_⟩,trivial⟩
    ·exact congrArg (fun x => some (Blk.box x)) (husd [])
    ·rfl
   | p :: r =>
    refine And.intro (Int.natCast_nonneg k) (Exists.intro _ (And.intro (mrow_at hm1) ?_))
    skip
    refine lkS hfp ?_
    repeat (first | refine gT ?_ | refine gF ?_ | refine brT ?_ | refine brF ?_)
    refine And.intro (Int.natCast_nonneg j) (And.intro (show (j : Int) < (20 : Nat) by omega) ?_)
    repeat (first | refine gT ?_ | refine gF ?_ | refine brT ?_ | refine brF ?_)
    refine rdS hused ?_
    repeat (first | refine gT ?_ | refine gF ?_ | refine brT ?_ | refine brF ?_)
    first | refine Exists.intro _ (And.intro (q) ?_) | refine Hn_by (Exists.intro _ (And.intro (q) ?_))
    repeat (first | refine gT ?_ | refine gF ?_ | refine brT ?_ | refine brF ?_)
    refine And.intro (Int.natCast_nonneg j) (And.intro (show (j : Int) < (20 : Nat) by omega) ?_)
    refine mT (show Nat.ble ((0 + ((j : Int)).toNat * 1) + 1) (lenL (usedB (p :: r))) = true from ble_len (by rw [usedB_len]; omega)) ?_
    refine forceL_by (set_app (0 + ((j : Int)).toNat * 1) (usedB (p :: r)) (.bool true) (by rw [usedB_len]; omega)) ?_
    refine And.intro (show (p :: r).length = (irows .i64 (natI (p :: r))).length by rw [irows_len,natI_len]) (And.intro (Nat.le_refl 1) (And.intro (show ((p :: r).length + 1) * 8 <= 140737488355328 by omega) (And.intro (show (p :: r).length + 1 <= maxLen by simp only [maxLen]; omega) ?_)))
    refine hP _ ?_ ⟨gk,e2⟩ (by omega)
    refine leR_by [(4,7)] [] rfl rfl (by decide) ⟨⟨by decide,rfl⟩,.inl rfl,⟨by decide,rfl⟩,⟨by decide,?_⟩,.inl rfl,rfl,int_eq hw,trivial⟩ ⟨⟨rfl,trivial,rfl⟩,  ⟨rfl,usedB_ones,⟨_,?_,usedB_cvs⟩⟩,⟨rfl,trivial,?_⟩,trivial⟩
    ·show AV.ms 7 0 ((p :: r).length + 1) = AV.ms 7 0 ((p :: r) ++ [j]).length
     rw [List.length_append]; rfl
    ·exact congrArg (fun x => some (Blk.box x)) (husd (p :: r))
    ·show some (Blk.arr (3,1) (irows .i64 (natI (p :: r)) ++ [[.int .i64 (j : Int)]]) true) = some (Blk.arr (3,1) (irows .i64 (natI ((p :: r) ++ [j]))) true)
     unfold irows natI
     rw [List.map_append,List.map_append]; rfl
  ·have gk : ¬ k < ms.length:=by have : ¬ (k : Int) < (ms.length : Int):=g; omega
   rw [List.take_of_length_le (by omega),ht] at hs
   cases hs
   match tg with
   | [] => exact And.intro (Or.inr rfl) hK
   | p :: r => exact And.intro (Or.inr rfl) hK
 | x0 :: xs =>
  refine aw_loopN (3 + 1) (fun x : Nat × List Nat => stOf [(0,.mv 0),(1,mvv ms),(6,.bp 3 0),(7,nacV 4 x.2),(12,mvv ms),(13,.int .i64 (ms.length : Int)),(14,.int .i64 (x.1 : Int))] ((0,.mp (entP 0 ins)) :: (2,.arr (3,1) (irows .i64 (natI (x0 :: xs))) true) :: ((3,.box (usedB x.2)) :: nacH 4 x.2)) 5) (fun x => x.1 <= ms.length ∧ tgP ins (ms.take x.1) = some x.2) (fun x => ms.length - x.1) (0,[]) ⟨Nat.zero_le _,rfl⟩
   (.inl (le_by ⟨rfl,rfl,rfl,rfl,rfl,int_eq (by first | rfl | rw [mrow_len]),rfl,trivial⟩ ⟨h0,h2,rfl,trivial⟩ (Nat.le_succ (3 + 1)))) (by kernel_rfl) ?_
  rintro ⟨k,acc⟩ ⟨hk,hs⟩ P hP
  dsimp only at hk hs
  refine br (fun g => ?_) (fun g => ?_)
  ·have gk : k < ms.length:=by have : (k : Int) < (ms.length : Int):=g; omega
   obtain ⟨m,hm1⟩:=get_of gk
   have e1 : tgP ins (ms.take (k + 1)) = tstep ins (some acc) m:=by rw [take_snc2 hm1,tgP_snoc,hs]
   have q:=(qvalid_tot [] (hm m (List.mem_of_getElem? hm1))).1
   have hw:=w64_succ gk (by omega)
   have hfp:=findP_ent (q:=(m.st,m.co)) (l:=ins) (i:=0)
   cases hf : fnd (m.st,m.co) ins 0 with
   | none =>
    rw [tgP_bad (k:=k + 1) (e1.trans (by unfold tstep; simp only [hf]))] at ht
    cases ht
   | some j =>
   have hj : j < 20:=by have:=(fnd_lt hf).2; omega
   by_cases hc : j ∈ acc ∨ qB m.to = false
   ·rw [tgP_bad (k:=k + 1) (e1.trans (by unfold tstep; simp only [hf]; rw [if_pos hc]))] at ht
    cases ht
   have hja : j ∉ acc:=fun h => hc (.inl h)
   have hq : qB m.to = true:=by
    cases hb : qB m.to with
    | true => rfl
    | false => exact absurd (.inr hb) hc
   rw [hq] at q
   rw [hf] at hfp
   have e2 : tgP ins (ms.take (k + 1)) = some (acc ++ [j]):=e1.trans (by unfold tstep; simp only [hf]; rw [if_neg hc])
   have hln : acc.length <= 200:=by have:=(tgP_ok hs).1; rw [List.length_take] at this; omega
   have hused : (usedB acc)[0 + ((j : Int)).toNat * 1]? = some (.bool false):=by rw [Nat.zero_add,Int.toNat_natCast,Nat.mul_one,usedB_at hj,decide_eq_false hja]
   have husd : ∀ l : List Nat,(usedB l).set (0 + ((j : Int)).toNat * 1) (.bool true) = usedB (l ++ [j]):=fun l => by rw [Nat.zero_add,Int.toNat_natCast,Nat.mul_one,usedB_set hj]
   have hP:=hP (k + 1,acc ++ [j])
   dsimp only at hP
   match acc with
   | [] =>
    refine And.intro (Int.natCast_nonneg k) (Exists.intro _ (And.intro (mrow_at hm1) ?_))
    skip
    refine lkS hfp ?_
    repeat (first | refine gT ?_ | refine gF ?_ | refine brT ?_ | refine brF ?_)
    refine And.intro (Int.natCast_nonneg j) (And.intro (show (j : Int) < (20 : Nat) by omega) ?_)
    repeat (first | refine gT ?_ | refine gF ?_ | refine brT ?_ | refine brF ?_)
    refine rdS hused ?_
    repeat (first | refine gT ?_ | refine gF ?_ | refine brT ?_ | refine brF ?_)
    first | refine Exists.intro _ (And.intro (q) ?_) | refine Hn_by (Exists.intro _ (And.intro (q) ?_))
    repeat (first | refine gT ?_ | refine gF ?_ | refine brT ?_ | refine brF ?_)
    refine And.intro (Int.natCast_nonneg j) (And.intro (show (j : Int) < (20 : Nat) by omega) ?_)
    refine mT (show Nat.ble ((0 + ((j : Int)).toNat * 1) + 1) (lenL (usedB [])) = true from ble_len (by rw [usedB_len]; omega)) ?_
    refine forceL_by (set_app (0 + ((j : Int)).toNat * 1) (usedB []) (.bool true) (by rw [usedB_len]; omega)) ?_
    refine And.intro (by decide) (And.intro (by decide) (And.intro (by decide) (And.intro (Nat.le_refl 1) ?_)))
    refine hP _ ?_ ⟨gk,e2⟩ (by omega)
    refine leR_by [(4,7)] [] rfl rfl (by decide) ⟨⟨by decide,rfl⟩,.inl rfl,⟨by decide,rfl⟩,⟨by decide,by kernel_rfl⟩,.inl rfl,rfl,int_eq hw,trivial⟩ ⟨⟨rfl,trivial,rfl⟩,⟨rfl,trivial,rfl⟩,⟨rfl,usedB_ones,⟨_,?_,usedB_cvs⟩⟩,⟨rfl,trivial,?_⟩,trivial⟩
    ·exact congrArg (fun x => some (Blk.box x)) (husd [])
    ·rfl
   | p :: r =>
    refine And.intro (Int.natCast_nonneg k) (Exists.intro _ (And.intro (mrow_at hm1) ?_))
    skip
    refine lkS hfp ?_
    repeat (first | refine gT ?_ | refine gF ?_ | refine brT ?_ | refine brF ?_)
    refine And.intro (Int.natCast_nonneg j) (And.intro (show (j : Int) < (20 : Nat) by omega) ?_)
    repeat (first | refine gT ?_ | refine gF ?_ | refine brT ?_ | refine brF ?_)
    refine rdS hused ?_
    repeat (first | refine gT ?_ | refine gF ?_ | refine brT ?_ | refine brF ?_)
    first | refine Exists.intro _ (And.intro (q) ?_) | refine Hn_by (Exists.intro _ (And.intro (q) ?_))
    repeat (first | refine gT ?_ | refine gF ?_ | refine brT ?_ | refine brF ?_)
    refine And.intro (Int.natCast_nonneg j) (And.intro (show (j : Int) < (20 : Nat) by omega) ?_)
    refine mT (show Nat.ble ((0 + ((j : Int)).toNat * 1) + 1) (lenL (usedB (p :: r))) = true from ble_len (by rw [usedB_len]; omega)) ?_
    refine forceL_by (set_app (0 + ((j : Int)).toNat * 1) (usedB (p :: r)) (.bool true) (by rw [usedB_len]; omega)) ?_
    refine And.intro (show (p :: r).length = (irows .i64 (natI (p :: r))).length by rw [irows_len,natI_len]) (And.intro (Nat.le_refl 1) (And.intro (show ((p :: r).length + 1) * 8 <= 140737488355328 by omega) (And.intro (show (p :: r).length + 1 <= maxLen by simp only [maxLen]; omega) ?_)))
    refine hP _ ?_ ⟨gk,e2⟩ (by omega)
    refine leR_by [(4,7)] [] rfl rfl (by decide) ⟨⟨by decide,rfl⟩,.inl rfl,⟨by decide,rfl⟩,⟨by decide,?_⟩,.inl rfl,rfl,int_eq hw,trivial⟩ ⟨⟨rfl,trivial,rfl⟩,⟨rfl,trivial,rfl⟩,⟨rfl,usedB_ones,⟨_,?_,usedB_cvs⟩⟩,⟨rfl,trivial,?_⟩,trivial⟩
    ·show AV.ms 7 0 ((p :: r).length + 1) = AV.ms 7 0 ((p :: r) ++ [j]).length
     rw [List.length_append]; rfl
    ·exact congrArg (fun x => some (Blk.box x)) (husd (p :: r))
    ·show some (Blk.arr (3,1) (irows .i64 (natI (p :: r)) ++ [[.int .i64 (j : Int)]]) true) = some (Blk.arr (3,1) (irows .i64 (natI ((p :: r) ++ [j]))) true)
     unfold irows natI
     rw [List.map_append,List.map_append]; rfl
  ·have gk : ¬ k < ms.length:=by have : ¬ (k : Int) < (ms.length : Int):=g; omega
   rw [List.take_of_length_le (by omega),ht] at hs
   cases hs
   match tg with
   | [] => exact And.intro (Or.inr rfl) hK
   | p :: r => exact And.intro (Or.inr rfl) hK
theorem targ_bad2 {ins : List Pr} {ms : List Mv} (hi : ins.length <= 20) (hm : MvsOk ms) (hl : ms.length <= 200) (ht : tgP ins ms = none) {tm : Nat -> AV} {hp : Nat -> Option Blk} {K : AV -> St -> Prop} (n : Nat) (h0 : hp 0 = some (.mp (entP 0 ins)))
  (hK : ∀ hp',K (.tup [.nil,.bool false]) ⟨tm,hp',3⟩) : Hn Tryz.prog T [] (n + 1) (.fn 47) [.mv 0,mvv ms] ⟨tm,hp,3⟩ K:=by
 refine Hn_cut Tryz.f47 Tryz.func47 fn_ok47 (by kernel_rfl) ?_
 refine aw_loopN (3 + 1) (fun x : Nat × List Nat => stOf [(0,.mv 0),(1,mvv ms),(6,.bp 3 0),(7,nacV 4 x.2),(12,mvv ms),(13,.int .i64 (ms.length : Int)),(14,.int .i64 (x.1 : Int))] ((0,.mp (entP 0 ins)) ::  ((3,.box (usedB x.2)) :: nacH 4 x.2)) 5) (fun x => x.1 <= ms.length ∧ tgP ins (ms.take x.1) = some x.2) (fun x => ms.length - x.1) (0,[]) ⟨Nat.zero_le _,rfl⟩
  (.inl (le_by ⟨rfl,rfl,rfl,rfl,rfl,int_eq (by first | rfl | rw [mrow_len]),rfl,trivial⟩ ⟨h0,  rfl,trivial⟩ (Nat.le_succ (3 + 1)))) (by kernel_rfl) ?_
 rintro ⟨k,acc⟩ ⟨hk,hs⟩ P hP
 dsimp only at hk hs
 refine br (fun g => ?_) (fun g => ?_)
 ·have gk : k < ms.length:=by have : (k : Int) < (ms.length : Int):=g; omega
  obtain ⟨m,hm1⟩:=get_of gk
  have e1 : tgP ins (ms.take (k + 1)) = tstep ins (some acc) m:=by rw [take_snc2 hm1,tgP_snoc,hs]
  have q:=(qvalid_tot [] (hm m (List.mem_of_getElem? hm1))).1
  have hw:=w64_succ gk (by omega)
  have hfp:=findP_ent (q:=(m.st,m.co)) (l:=ins) (i:=0)
  cases hf : fnd (m.st,m.co) ins 0 with
  | none =>
   rw [hf] at hfp
   refine And.intro (Int.natCast_nonneg k) (Exists.intro _ (And.intro (mrow_at hm1) ?_))
   skip
   refine lkN hfp ?_
   repeat (first | refine gT ?_ | refine gF ?_ | refine brT ?_ | refine brF ?_)
   cases acc <;> exact And.intro (Or.inr rfl) (And.intro rfl (And.intro (cleanB_ok (by kernel_rfl)) (hK _)))
  | some j =>
  have hj : j < 20:=by have:=(fnd_lt hf).2; omega
  rw [hf] at hfp
  have hused : (usedB acc)[0 + ((j : Int)).toNat * 1]? = some (.bool (decide (j ∈ acc))):=by rw [Nat.zero_add,Int.toNat_natCast,Nat.mul_one,usedB_at hj]
  by_cases hja : j ∈ acc
  ·rw [decide_eq_true hja] at hused
   refine And.intro (Int.natCast_nonneg k) (Exists.intro _ (And.intro (mrow_at hm1) ?_))
   skip
   refine lkS hfp ?_
   repeat (first | refine gT ?_ | refine gF ?_ | refine brT ?_ | refine brF ?_)
   refine And.intro (Int.natCast_nonneg j) (And.intro (show (j : Int) < (20 : Nat) by omega) ?_)
   repeat (first | refine gT ?_ | refine gF ?_ | refine brT ?_ | refine brF ?_)
   refine rdS hused ?_
   repeat (first | refine gT ?_ | refine gF ?_ | refine brT ?_ | refine brF ?_)
   cases acc <;> exact And.intro (Or.inr rfl) (And.intro rfl (And.intro (cleanB_ok (by kernel_rfl)) (hK _)))
  rw [decide_eq_false hja] at hused
  cases hq : qB m.to with
  | false =>
   rw [hq] at q
   refine And.intro (Int.natCast_nonneg k) (Exists.intro _ (And.intro (mrow_at hm1) ?_))
   skip
   refine lkS hfp ?_
   repeat (first | refine gT ?_ | refine gF ?_ | refine brT ?_ | refine brF ?_)
   refine And.intro (Int.natCast_nonneg j) (And.intro (show (j : Int) < (20 : Nat) by omega) ?_)
   repeat (first | refine gT ?_ | refine gF ?_ | refine brT ?_ | refine brF ?_)
   refine rdS hused ?_
   repeat (first | refine gT ?_ | refine gF ?_ | refine brT ?_ | refine brF ?_)
   first | refine Exists.intro _ (And.intro (q) ?_) | refine Hn_by (Exists.intro _ (And.intro (q) ?_))
   repeat (first | refine gT ?_ | refine gF ?_ | refine brT ?_ | refine brF ?_)
   cases acc <;> exact And.intro (Or.inr rfl) (And.intro rfl (And.intro (cleanB_ok (by kernel_rfl)) (hK _)))
  | true =>
  rw [hq] at q
  have hc : ¬ (j ∈ acc ∨ qB m.to = false):=by rw [hq]; simp [hja]
  have e2 : tgP ins (ms.take (k + 1)) = some (acc ++ [j]):=e1.trans (by unfold tstep; simp only [hf]; rw [if_neg hc])
  have hln : acc.length <= 200:=by have:=(tgP_ok hs).1; rw [List.length_take] at this; omega
  have husd : ∀ l : List Nat,(usedB l).set (0 + ((j : Int)).toNat * 1) (.bool true) = usedB (l ++ [j]):=fun l => by rw [Nat.zero_add,Int.toNat_natCast,Nat.mul_one,usedB_set hj]
  have hP:=hP (k + 1,acc ++ [j])
  dsimp only at hP
  match acc with
  | [] =>
   refine And.intro (Int.natCast_nonneg k) (Exists.intro _ (And.intro (mrow_at hm1) ?_))
   skip
   refine lkS hfp ?_
   repeat (first | refine gT ?_ | refine gF ?_ | refine brT ?_ | refine brF ?_)
   refine And.intro (Int.natCast_nonneg j) (And.intro (show (j : Int) < (20 : Nat) by omega) ?_)
   repeat (first | refine gT ?_ | refine gF ?_ | refine brT ?_ | refine brF ?_)
   refine rdS hused ?_
   repeat (first | refine gT ?_ | refine gF ?_ | refine brT ?_ | refine brF ?_)
   first | refine Exists.intro _ (And.intro (q) ?_) | refine Hn_by (Exists.intro _ (And.intro (q) ?_))
   repeat (first | refine gT ?_ | refine gF ?_ | refine brT ?_ | refine brF ?_)
   refine And.intro (Int.natCast_nonneg j) (And.intro (show (j : Int) < (20 : Nat) by omega) ?_)
   refine mT (show Nat.ble ((0 + ((j : Int)).toNat * 1) + 1) (lenL (usedB [])) = true from ble_len (by rw [usedB_len]; omega)) ?_
   refine forceL_by (set_app (0 + ((j : Int)).toNat * 1) (usedB []) (.bool true) (by rw [usedB_len]; omega)) ?_
   refine And.intro (by decide) (And.intro (by decide) (And.intro (by decide) (And.intro (Nat.le_refl 1) ?_)))
   refine hP _ ?_ ⟨gk,e2⟩ (by omega)
   refine leR_by [(4,7)] [] rfl rfl (by decide) ⟨⟨by decide,rfl⟩,.inl rfl,⟨by decide,rfl⟩,⟨by decide,by kernel_rfl⟩,.inl rfl,rfl,int_eq hw,trivial⟩ ⟨⟨rfl,trivial,rfl⟩,  ⟨rfl,usedB_ones,⟨_,?_,usedB_cvs⟩⟩,⟨rfl,trivial,?_⟩,trivial⟩
   ·exact congrArg (fun x => some (Blk.box x)) (husd [])
   ·rfl
  | p :: r =>
   refine And.intro (Int.natCast_nonneg k) (Exists.intro _ (And.intro (mrow_at hm1) ?_))
   skip
   refine lkS hfp ?_
   repeat (first | refine gT ?_ | refine gF ?_ | refine brT ?_ | refine brF ?_)
   refine And.intro (Int.natCast_nonneg j) (And.intro (show (j : Int) < (20 : Nat) by omega) ?_)
   repeat (first | refine gT ?_ | refine gF ?_ | refine brT ?_ | refine brF ?_)
   refine rdS hused ?_
   repeat (first | refine gT ?_ | refine gF ?_ | refine brT ?_ | refine brF ?_)
   first | refine Exists.intro _ (And.intro (q) ?_) | refine Hn_by (Exists.intro _ (And.intro (q) ?_))
   repeat (first | refine gT ?_ | refine gF ?_ | refine brT ?_ | refine brF ?_)
   refine And.intro (Int.natCast_nonneg j) (And.intro (show (j : Int) < (20 : Nat) by omega) ?_)
   refine mT (show Nat.ble ((0 + ((j : Int)).toNat * 1) + 1) (lenL (usedB (p :: r))) = true from ble_len (by rw [usedB_len]; omega)) ?_
   refine forceL_by (set_app (0 + ((j : Int)).toNat * 1) (usedB (p :: r)) (.bool true) (by rw [usedB_len]; omega)) ?_
   refine And.intro (show (p :: r).length = (irows .i64 (natI (p :: r))).length by rw [irows_len,natI_len]) (And.intro (Nat.le_refl 1) (And.intro (show ((p :: r).length + 1) * 8 <= 140737488355328 by omega) (And.intro (show (p :: r).length + 1 <= maxLen by simp only [maxLen]; omega) ?_)))
   refine hP _ ?_ ⟨gk,e2⟩ (by omega)
   refine leR_by [(4,7)] [] rfl rfl (by decide) ⟨⟨by decide,rfl⟩,.inl rfl,⟨by decide,rfl⟩,⟨by decide,?_⟩,.inl rfl,rfl,int_eq hw,trivial⟩ ⟨⟨rfl,trivial,rfl⟩,  ⟨rfl,usedB_ones,⟨_,?_,usedB_cvs⟩⟩,⟨rfl,trivial,?_⟩,trivial⟩
   ·show AV.ms 7 0 ((p :: r).length + 1) = AV.ms 7 0 ((p :: r) ++ [j]).length
    rw [List.length_append]; rfl
   ·exact congrArg (fun x => some (Blk.box x)) (husd (p :: r))
   ·show some (Blk.arr (3,1) (irows .i64 (natI (p :: r)) ++ [[.int .i64 (j : Int)]]) true) = some (Blk.arr (3,1) (irows .i64 (natI ((p :: r) ++ [j]))) true)
    unfold irows natI
    rw [List.map_append,List.map_append]; rfl
 ·have gk : ¬ k < ms.length:=by have : ¬ (k : Int) < (ms.length : Int):=g; omega
  rw [List.take_of_length_le (by omega),ht] at hs
  cases hs
theorem targ_bad3 {ins : List Pr} {ms : List Mv} {N : Nat} (hi : ins.length <= 20) (hm : MvsOk ms) (hl : ms.length <= 200) (ht : tgP ins ms = none) {tm : Nat -> AV} {hp : Nat -> Option Blk} {K : AV -> St -> Prop} (n : Nat) (h0 : hp 0 = some (.mp (entP 0 ins))) (hN : N = ms.length) (h7 : hp 7 = some (.arr (72,6) (ms.map mrow) true))
  (hK : ∀ hp',K (.tup [.nil,.bool false]) ⟨tm,hp',8⟩) : Hn Tryz.prog T [] (n + 1) (.fn 47) [.mv 0,.ms 7 0 N] ⟨tm,hp,8⟩ K:=by
 subst hN
 refine Hn_cut Tryz.f47 Tryz.func47 fn_ok47 (by kernel_rfl) ?_
 refine aw_loopN (8 + 1) (fun x : Nat × List Nat => stOf [(0,.mv 0),(1,.ms 7 0 ms.length),(6,.bp 8 0),(7,nacV 9 x.2),(12,.ms 7 0 ms.length),(13,.int .i64 (ms.length : Int)),(14,.int .i64 (x.1 : Int))] ((0,.mp (entP 0 ins)) :: (7,.arr (72,6) (ms.map mrow) true) :: ((8,.box (usedB x.2)) :: nacH 9 x.2)) 10) (fun x => x.1 <= ms.length ∧ tgP ins (ms.take x.1) = some x.2) (fun x => ms.length - x.1) (0,[]) ⟨Nat.zero_le _,rfl⟩
  (.inl (le_by ⟨rfl,rfl,rfl,rfl,rfl,int_eq (by first | rfl | rw [mrow_len]),rfl,trivial⟩ ⟨h0,h7,rfl,trivial⟩ (Nat.le_succ (8 + 1)))) (by kernel_rfl) ?_
 rintro ⟨k,acc⟩ ⟨hk,hs⟩ P hP
 dsimp only at hk hs
 refine br (fun g => ?_) (fun g => ?_)
 ·have gk : k < ms.length:=by have : (k : Int) < (ms.length : Int):=g; omega
  obtain ⟨m,hm1⟩:=get_of gk
  have e1 : tgP ins (ms.take (k + 1)) = tstep ins (some acc) m:=by rw [take_snc2 hm1,tgP_snoc,hs]
  have q:=(qvalid_tot [] (hm m (List.mem_of_getElem? hm1))).1
  have hw:=w64_succ gk (by omega)
  have hfp:=findP_ent (q:=(m.st,m.co)) (l:=ins) (i:=0)
  cases hf : fnd (m.st,m.co) ins 0 with
  | none =>
   rw [hf] at hfp
   refine And.intro (Int.natCast_nonneg k) (And.intro (show (k : Int) < (ms.length : Int) by omega) ?_)
   refine Exists.intro _ (And.intro (show (ms.map mrow)[0 + ((k : Int)).toNat]? = some (mrow m) by rw [Nat.zero_add]; exact mrow_at hm1) ?_)
   refine lkN hfp ?_
   repeat (first | refine gT ?_ | refine gF ?_ | refine brT ?_ | refine brF ?_)
   cases acc <;> exact And.intro (Or.inr rfl) (And.intro rfl (And.intro (cleanB_ok (by kernel_rfl)) (hK _)))
  | some j =>
  have hj : j < 20:=by have:=(fnd_lt hf).2; omega
  rw [hf] at hfp
  have hused : (usedB acc)[0 + ((j : Int)).toNat * 1]? = some (.bool (decide (j ∈ acc))):=by rw [Nat.zero_add,Int.toNat_natCast,Nat.mul_one,usedB_at hj]
  by_cases hja : j ∈ acc
  ·rw [decide_eq_true hja] at hused
   refine And.intro (Int.natCast_nonneg k) (And.intro (show (k : Int) < (ms.length : Int) by omega) ?_)
   refine Exists.intro _ (And.intro (show (ms.map mrow)[0 + ((k : Int)).toNat]? = some (mrow m) by rw [Nat.zero_add]; exact mrow_at hm1) ?_)
   refine lkS hfp ?_
   repeat (first | refine gT ?_ | refine gF ?_ | refine brT ?_ | refine brF ?_)
   refine And.intro (Int.natCast_nonneg j) (And.intro (show (j : Int) < (20 : Nat) by omega) ?_)
   repeat (first | refine gT ?_ | refine gF ?_ | refine brT ?_ | refine brF ?_)
   refine rdS hused ?_
   repeat (first | refine gT ?_ | refine gF ?_ | refine brT ?_ | refine brF ?_)
   cases acc <;> exact And.intro (Or.inr rfl) (And.intro rfl (And.intro (cleanB_ok (by kernel_rfl)) (hK _)))
  rw [decide_eq_false hja] at hused
  cases hq : qB m.to with
  | false =>
   rw [hq] at q
   refine And.intro (Int.natCast_nonneg k) (And.intro (show (k : Int) < (ms.length : Int) by omega) ?_)
   refine Exists.intro _ (And.intro (show (ms.map mrow)[0 + ((k : Int)).toNat]? = some (mrow m) by rw [Nat.zero_add]; exact mrow_at hm1) ?_)
   refine lkS hfp ?_
   repeat (first | refine gT ?_ | refine gF ?_ | refine brT ?_ | refine brF ?_)
   refine And.intro (Int.natCast_nonneg j) (And.intro (show (j : Int) < (20 : Nat) by omega) ?_)
   repeat (first | refine gT ?_ | refine gF ?_ | refine brT ?_ | refine brF ?_)
   refine rdS hused ?_
   repeat (first | refine gT ?_ | refine gF ?_ | refine brT ?_ | refine brF ?_)
   first | refine Exists.intro _ (And.intro (q) ?_) | refine Hn_by (Exists.intro _ (And.intro (q) ?_))
   repeat (first | refine gT ?_ | refine gF ?_ | refine brT ?_ | refine brF ?_)
   cases acc <;> exact And.intro (Or.inr rfl) (And.intro rfl (And.intro (cleanB_ok (by kernel_rfl)) (hK _)))
  | true =>
  rw [hq] at q
  have hc : ¬ (j ∈ acc ∨ qB m.to = false):=by rw [hq]; simp [hja]
  have e2 : tgP ins (ms.take (k + 1)) = some (acc ++ [j]):=e1.trans (by unfold tstep; simp only [hf]; rw [if_neg hc])
  have hln : acc.length <= 200:=by have:=(tgP_ok hs).1; rw [List.length_take] at this; omega
  have husd : ∀ l : List Nat,(usedB l).set (0 + ((j : Int)).toNat * 1) (.bool true) = usedB (l ++ [j]):=fun l => by rw [Nat.zero_add,Int.toNat_natCast,Nat.mul_one,usedB_set hj]
  have hP:=hP (k + 1,acc ++ [j])
  dsimp only at hP
  match acc with
  | [] =>
   refine And.intro (Int.natCast_nonneg k) (And.intro (show (k : Int) < (ms.length : Int) by omega) ?_)
   refine Exists.intro _ (And.intro (show (ms.map mrow)[0 + ((k : Int)).toNat]? = some (mrow m) by rw [Nat.zero_add]; exact mrow_at hm1) ?_)
   refine lkS hfp ?_
   repeat (first | refine gT ?_ | refine gF ?_ | refine brT ?_ | refine brF ?_)
   refine And.intro (Int.natCast_nonneg j) (And.intro (show (j : Int) < (20 : Nat) by omega) ?_)
   repeat (first | refine gT ?_ | refine gF ?_ | refine brT ?_ | refine brF ?_)
   refine rdS hused ?_
   repeat (first | refine gT ?_ | refine gF ?_ | refine brT ?_ | refine brF ?_)
   first | refine Exists.intro _ (And.intro (q) ?_) | refine Hn_by (Exists.intro _ (And.intro (q) ?_))
   repeat (first | refine gT ?_ | refine gF ?_ | refine brT ?_ | refine brF ?_)
   refine And.intro (Int.natCast_nonneg j) (And.intro (show (j : Int) < (20 : Nat) by omega) ?_)
   refine mT (show Nat.ble ((0 + ((j : Int)).toNat * 1) + 1) (lenL (usedB [])) = true from ble_len (by rw [usedB_len]; omega)) ?_
   refine forceL_by (set_app (0 + ((j : Int)).toNat * 1) (usedB []) (.bool true) (by rw [usedB_len]; omega)) ?_
   refine And.intro (by decide) (And.intro (by decide) (And.intro (by decide) (And.intro (Nat.le_refl 1) ?_)))
   refine hP _ ?_ ⟨gk,e2⟩ (by omega)
   refine leR_by [(9,12)] [] rfl rfl (by decide) ⟨⟨by decide,rfl⟩,⟨by decide,rfl⟩,⟨by decide,rfl⟩,⟨by decide,by kernel_rfl⟩,⟨by decide,rfl⟩,rfl,int_eq hw,trivial⟩ ⟨⟨rfl,trivial,rfl⟩,⟨rfl,trivial,rfl⟩,⟨rfl,usedB_ones,⟨_,?_,usedB_cvs⟩⟩,⟨rfl,trivial,?_⟩,trivial⟩
   ·exact congrArg (fun x => some (Blk.box x)) (husd [])
   ·rfl
  | p :: r =>
   refine And.intro (Int.natCast_nonneg k) (And.intro (show (k : Int) < (ms.length : Int) by omega) ?_)
   refine Exists.intro _ (And.intro (show (ms.map mrow)[0 + ((k : Int)).toNat]? = some (mrow m) by rw [Nat.zero_add]; exact mrow_at hm1) ?_)
   refine lkS hfp ?_
   repeat (first | refine gT ?_ | refine gF ?_ | refine brT ?_ | refine brF ?_)
   refine And.intro (Int.natCast_nonneg j) (And.intro (show (j : Int) < (20 : Nat) by omega) ?_)
   repeat (first | refine gT ?_ | refine gF ?_ | refine brT ?_ | refine brF ?_)
   refine rdS hused ?_
   repeat (first | refine gT ?_ | refine gF ?_ | refine brT ?_ | refine brF ?_)
   first | refine Exists.intro _ (And.intro (q) ?_) | refine Hn_by (Exists.intro _ (And.intro (q) ?_))
   repeat (first | refine gT ?_ | refine gF ?_ | refine brT ?_ | refine brF ?_)
   refine And.intro (Int.natCast_nonneg j) (And.intro (show (j : Int) < (20 : Nat) by omega) ?_)
   refine mT (show Nat.ble ((0 + ((j : Int)).toNat * 1) + 1) (lenL (usedB (p :: r))) = true from ble_len (by rw [usedB_len]; omega)) ?_
   refine forceL_by (set_app (0 + ((j : Int)).toNat * 1) (usedB (p :: r)) (.bool true) (by rw [usedB_len]; omega)) ?_
   refine And.intro (show (p :: r).length = (irows .i64 (natI (p :: r))).length by rw [irows_len,natI_len]) (And.intro (Nat.le_refl 1) (And.intro (show ((p :: r).length + 1) * 8 <= 140737488355328 by omega) (And.intro (show (p :: r).length + 1 <= maxLen by simp only [maxLen]; omega) ?_)))
   refine hP _ ?_ ⟨gk,e2⟩ (by omega)
   refine leR_by [(9,12)] [] rfl rfl (by decide) ⟨⟨by decide,rfl⟩,⟨by decide,rfl⟩,⟨by decide,rfl⟩,⟨by decide,?_⟩,⟨by decide,rfl⟩,rfl,int_eq hw,trivial⟩ ⟨⟨rfl,trivial,rfl⟩,⟨rfl,trivial,rfl⟩,⟨rfl,usedB_ones,⟨_,?_,usedB_cvs⟩⟩,⟨rfl,trivial,?_⟩,trivial⟩
   ·show AV.ms 12 0 ((p :: r).length + 1) = AV.ms 12 0 ((p :: r) ++ [j]).length
    rw [List.length_append]; rfl
   ·exact congrArg (fun x => some (Blk.box x)) (husd (p :: r))
   ·show some (Blk.arr (3,1) (irows .i64 (natI (p :: r)) ++ [[.int .i64 (j : Int)]]) true) = some (Blk.arr (3,1) (irows .i64 (natI ((p :: r) ++ [j]))) true)
    unfold irows natI
    rw [List.map_append,List.map_append]; rfl
 ·have gk : ¬ k < ms.length:=by have : ¬ (k : Int) < (ms.length : Int):=g; omega
  rw [List.take_of_length_le (by omega),ht] at hs
  cases hs
theorem targ_ok3 {ins : List Pr} {ms : List Mv} {N : Nat} {a1 a2 tg : List Nat} (hi : ins.length <= 20) (hm : MvsOk ms) (hl : ms.length <= 200) (ht : tgP ins ms = some tg) {tm : Nat -> AV} {hp : Nat -> Option Blk} {K : AV -> St -> Prop} (n : Nat) (h0 : hp 0 = some (.mp (entP 0 ins))) (hN : N = ms.length) (h7 : hp 7 = some (.arr (72,6) (ms.map mrow) true)) (h2 : NH hp 2 a1) (h4 : NH hp 4 a2)
  (hK : K (.tup [nacV 9 tg,.bool true]) ⟨tm,fun k => look ((0,Blk.mp (entP 0 ins)) :: (7,.arr (72,6) (ms.map mrow) true) :: (nacH 2 a1 ++ (nacH 4 a2 ++ ((8,.box (usedB tg)) :: nacH 9 tg)))) k,10⟩) : Hn Tryz.prog T [] (n + 1) (.fn 47) [.mv 0,.ms 7 0 N] ⟨tm,hp,8⟩ K:=by
 subst hN
 refine Hn_in Tryz.f47 Tryz.func47 fn_ok47 (by kernel_rfl) ?_
 match a1,a2 with
 | [],[] =>
  refine aw_loopN (8 + 1) (fun x : Nat × List Nat => stOf [(0,.mv 0),(1,.ms 7 0 ms.length),(6,.bp 8 0),(7,nacV 9 x.2),(12,.ms 7 0 ms.length),(13,.int .i64 (ms.length : Int)),(14,.int .i64 (x.1 : Int))] ((0,.mp (entP 0 ins)) :: (7,.arr (72,6) (ms.map mrow) true) :: ((8,.box (usedB x.2)) :: nacH 9 x.2)) 10) (fun x => x.1 <= ms.length ∧ tgP ins (ms.take x.1) = some x.2) (fun x => ms.length - x.1) (0,[]) ⟨Nat.zero_le _,rfl⟩
   (.inl (le_by ⟨rfl,rfl,rfl,rfl,rfl,int_eq (by first | rfl | rw [mrow_len]),rfl,trivial⟩ ⟨h0,h7,rfl,trivial⟩ (Nat.le_succ (8 + 1)))) (by kernel_rfl) ?_
  rintro ⟨k,acc⟩ ⟨hk,hs⟩ P hP
  dsimp only at hk hs
  refine br (fun g => ?_) (fun g => ?_)
  ·have gk : k < ms.length:=by have : (k : Int) < (ms.length : Int):=g; omega
   obtain ⟨m,hm1⟩:=get_of gk
   have e1 : tgP ins (ms.take (k + 1)) = tstep ins (some acc) m:=by rw [take_snc2 hm1,tgP_snoc,hs]
   have q:=(qvalid_tot [] (hm m (List.mem_of_getElem? hm1))).1
   have hw:=w64_succ gk (by omega)
   have hfp:=findP_ent (q:=(m.st,m.co)) (l:=ins) (i:=0)
   cases hf : fnd (m.st,m.co) ins 0 with
   | none =>
    rw [tgP_bad (k:=k + 1) (e1.trans (by unfold tstep; simp only [hf]))] at ht
    cases ht
   | some j =>
   have hj : j < 20:=by have:=(fnd_lt hf).2; omega
   by_cases hc : j ∈ acc ∨ qB m.to = false
   ·rw [tgP_bad (k:=k + 1) (e1.trans (by unfold tstep; simp only [hf]; rw [if_pos hc]))] at ht
    cases ht
   have hja : j ∉ acc:=fun h => hc (.inl h)
   have hq : qB m.to = true:=by
    cases hb : qB m.to with
    | true => rfl
    | false => exact absurd (.inr hb) hc
   rw [hq] at q
   rw [hf] at hfp
   have e2 : tgP ins (ms.take (k + 1)) = some (acc ++ [j]):=e1.trans (by unfold tstep; simp only [hf]; rw [if_neg hc])
   have hln : acc.length <= 200:=by have:=(tgP_ok hs).1; rw [List.length_take] at this; omega
   have hused : (usedB acc)[0 + ((j : Int)).toNat * 1]? = some (.bool false):=by rw [Nat.zero_add,Int.toNat_natCast,Nat.mul_one,usedB_at hj,decide_eq_false hja]
   have husd : ∀ l : List Nat,(usedB l).set (0 + ((j : Int)).toNat * 1) (.bool true) = usedB (l ++ [j]):=fun l => by rw [Nat.zero_add,Int.toNat_natCast,Nat.mul_one,usedB_set hj]
   have hP:=hP (k + 1,acc ++ [j])
   dsimp only at hP
   match acc with
   | [] =>
    refine And.intro (Int.natCast_nonneg k) (And.intro (show (k : Int) < (ms.length : Int) by omega) ?_)
    refine Exists.intro _ (And.intro (show (ms.map mrow)[0 + ((k : Int)).toNat]? = some (mrow m) by rw [Nat.zero_add]; exact mrow_at hm1) ?_)
    refine lkS hfp ?_
    repeat (first | refine gT ?_ | refine gF ?_ | refine brT ?_ | refine brF ?_)
    refine And.intro (Int.natCast_nonneg j) (And.intro (show (j : Int) < (20 : Nat) by omega) ?_)
    repeat (first | refine gT ?_ | refine gF ?_ | refine brT ?_ | refine brF ?_)
    refine rdS hused ?_
    repeat (first | refine gT ?_ | refine gF ?_ | refine brT ?_ | refine brF ?_)
    first | refine Exists.intro _ (And.intro (q) ?_) | refine Hn_by (Exists.intro _ (And.intro (q) ?_))
    repeat (first | refine gT ?_ | refine gF ?_ | refine brT ?_ | refine brF ?_)
    refine And.intro (Int.natCast_nonneg j) (And.intro (show (j : Int) < (20 : Nat) by omega) ?_)
    refine mT (show Nat.ble ((0 + ((j : Int)).toNat * 1) + 1) (lenL (usedB [])) = true from ble_len (by rw [usedB_len]; omega)) ?_
    refine forceL_by (set_app (0 + ((j : Int)).toNat * 1) (usedB []) (.bool true) (by rw [usedB_len]; omega)) ?_
    refine And.intro (by decide) (And.intro (by decide) (And.intro (by decide) (And.intro (Nat.le_refl 1) ?_)))
    refine hP _ ?_ ⟨gk,e2⟩ (by omega)
    refine leR_by [(9,12)] [] rfl rfl (by decide) ⟨⟨by decide,rfl⟩,⟨by decide,rfl⟩,⟨by decide,rfl⟩,⟨by decide,by kernel_rfl⟩,⟨by decide,rfl⟩,rfl,int_eq hw,trivial⟩ ⟨⟨rfl,trivial,rfl⟩,⟨rfl,trivial,rfl⟩,⟨rfl,usedB_ones,⟨_,?_,usedB_cvs⟩⟩,⟨rfl,trivial,?_⟩,trivial⟩
    ·exact congrArg (fun x => some (Blk.box x)) (husd [])
    ·rfl
   | p :: r =>
    refine And.intro (Int.natCast_nonneg k) (And.intro (show (k : Int) < (ms.length : Int) by omega) ?_)
    refine Exists.intro _ (And.intro (show (ms.map mrow)[0 + ((k : Int)).toNat]? = some (mrow m) by rw [Nat.zero_add]; exact mrow_at hm1) ?_)
    refine lkS hfp ?_
    repeat (first | refine gT ?_ | refine gF ?_ | refine brT ?_ | refine brF ?_)
    refine And.intro (Int.natCast_nonneg j) (And.intro (show (j : Int) < (20 : Nat) by omega) ?_)
    repeat (first | refine gT ?_ | refine gF ?_ | refine brT ?_ | refine brF ?_)
    refine rdS hused ?_
    repeat (first | refine gT ?_ | refine gF ?_ | refine brT ?_ | refine brF ?_)
    first | refine Exists.intro _ (And.intro (q) ?_) | refine Hn_by (Exists.intro _ (And.intro (q) ?_))
    repeat (first | refine gT ?_ | refine gF ?_ | refine brT ?_ | refine brF ?_)
    refine And.intro (Int.natCast_nonneg j) (And.intro (show (j : Int) < (20 : Nat) by omega) ?_)
    refine mT (show Nat.ble ((0 + ((j : Int)).toNat * 1) + 1) (lenL (usedB (p :: r))) = true from ble_len (by rw [usedB_len]; omega)) ?_
    refine forceL_by (set_app (0 + ((j : Int)).toNat * 1) (usedB (p :: r)) (.bool true) (by rw [usedB_len]; omega)) ?_
    refine And.intro (show (p :: r).length = (irows .i64 (natI (p :: r))).length by rw [irows_len,natI_len]) (And.intro (Nat.le_refl 1) (And.intro (show ((p :: r).length + 1) * 8 <= 140737488355328 by omega) (And.intro (show (p :: r).length + 1 <= maxLen by simp only [maxLen]; omega) ?_)))
    refine hP _ ?_ ⟨gk,e2⟩ (by omega)
    refine leR_by [(9,12)] [] rfl rfl (by decide) ⟨⟨by decide,rfl⟩,⟨by decide,rfl⟩,⟨by decide,rfl⟩,⟨by decide,?_⟩,⟨by decide,rfl⟩,rfl,int_eq hw,trivial⟩ ⟨⟨rfl,trivial,rfl⟩,⟨rfl,trivial,rfl⟩,⟨rfl,usedB_ones,⟨_,?_,usedB_cvs⟩⟩,⟨rfl,trivial,?_⟩,trivial⟩
    ·show AV.ms 12 0 ((p :: r).length + 1) = AV.ms 12 0 ((p :: r) ++ [j]).length
     rw [List.length_append]; rfl
    ·exact congrArg (fun x => some (Blk.box x)) (husd (p :: r))
    ·show some (Blk.arr (3,1) (irows .i64 (natI (p :: r)) ++ [[.int .i64 (j : Int)]]) true) = some (Blk.arr (3,1) (irows .i64 (natI ((p :: r) ++ [j]))) true)
     unfold irows natI
     rw [List.map_append,List.map_append]; rfl
  ·have gk : ¬ k < ms.length:=by have : ¬ (k : Int) < (ms.length : Int):=g; omega
   rw [List.take_of_length_le (by omega),ht] at hs
   cases hs
   match tg with
   | [] => exact And.intro (Or.inr rfl) hK
   | p :: r => exact And.intro (Or.inr rfl) hK
 | [],y :: ys =>
  refine aw_loopN (8 + 1) (fun x : Nat × List Nat => stOf [(0,.mv 0),(1,.ms 7 0 ms.length),(6,.bp 8 0),(7,nacV 9 x.2),(12,.ms 7 0 ms.length),(13,.int .i64 (ms.length : Int)),(14,.int .i64 (x.1 : Int))] ((0,.mp (entP 0 ins)) :: (7,.arr (72,6) (ms.map mrow) true) :: (4,.arr (3,1) (irows .i64 (natI (y :: ys))) true) :: ((8,.box (usedB x.2)) :: nacH 9 x.2)) 10) (fun x => x.1 <= ms.length ∧ tgP ins (ms.take x.1) = some x.2) (fun x => ms.length - x.1) (0,[]) ⟨Nat.zero_le _,rfl⟩
   (.inl (le_by ⟨rfl,rfl,rfl,rfl,rfl,int_eq (by first | rfl | rw [mrow_len]),rfl,trivial⟩ ⟨h0,h7,h4,rfl,trivial⟩ (Nat.le_succ (8 + 1)))) (by kernel_rfl) ?_
  rintro ⟨k,acc⟩ ⟨hk,hs⟩ P hP
  dsimp only at hk hs
  refine br (fun g => ?_) (fun g => ?_)
  ·have gk : k < ms.length:=by have : (k : Int) < (ms.length : Int):=g; omega
   obtain ⟨m,hm1⟩:=get_of gk
   have e1 : tgP ins (ms.take (k + 1)) = tstep ins (some acc) m:=by rw [take_snc2 hm1,tgP_snoc,hs]
   have q:=(qvalid_tot [] (hm m (List.mem_of_getElem? hm1))).1
   have hw:=w64_succ gk (by omega)
   have hfp:=findP_ent (q:=(m.st,m.co)) (l:=ins) (i:=0)
   cases hf : fnd (m.st,m.co) ins 0 with
   | none =>
    rw [tgP_bad (k:=k + 1) (e1.trans (by unfold tstep; simp only [hf]))] at ht
    cases ht
   | some j =>
   have hj : j < 20:=by have:=(fnd_lt hf).2; omega
   by_cases hc : j ∈ acc ∨ qB m.to = false
   ·rw [tgP_bad (k:=k + 1) (e1.trans (by unfold tstep; simp only [hf]; rw [if_pos hc]))] at ht
    cases ht
   have hja : j ∉ acc:=fun h => hc (.inl h)
   have hq : qB m.to = true:=by
    cases hb : qB m.to with
    | true => rfl
    | false => exact absurd (.inr hb) hc
   rw [hq] at q
   rw [hf] at hfp
   have e2 : tgP ins (ms.take (k + 1)) = some (acc ++ [j]):=e1.trans (by unfold tstep; simp only [hf]; rw [if_neg hc])
   have hln : acc.length <= 200:=by have:=(tgP_ok hs).1; rw [List.length_take] at this; omega
   have hused : (usedB acc)[0 + ((j : Int)).toNat * 1]? = some (.bool false):=by rw [Nat.zero_add,Int.toNat_natCast,Nat.mul_one,usedB_at hj,decide_eq_false hja]
   have husd : ∀ l : List Nat,(usedB l).set (0 + ((j : Int)).toNat * 1) (.bool true) = usedB (l ++ [j]):=fun l => by rw [Nat.zero_add,Int.toNat_natCast,Nat.mul_one,usedB_set hj]
   have hP:=hP (k + 1,acc ++ [j])
   dsimp only at hP
   match acc with
   | [] =>
    refine And.intro (Int.natCast_nonneg k) (And.intro (show (k : Int) < (ms.length : Int) by omega) ?_)
    refine Exists.intro _ (And.intro (show (ms.map mrow)[0 + ((k : Int)).toNat]? = some (mrow m) by rw [Nat.zero_add]; exact mrow_at hm1) ?_)
    refine lkS hfp ?_
    repeat (first | refine gT ?_ | refine gF ?_ | refine brT ?_ | refine brF ?_)
    refine And.intro (Int.natCast_nonneg j) (And.intro (show (j : Int) < (20 : Nat) by omega) ?_)
    repeat (first | refine gT ?_ | refine gF ?_ | refine brT ?_ | refine brF ?_)
    refine rdS hused ?_
    repeat (first | refine gT ?_ | refine gF ?_ | refine brT ?_ | refine brF ?_)
    first | refine Exists.intro _ (And.intro (q) ?_) | refine Hn_by (Exists.intro _ (And.intro (q) ?_))
    repeat (first | refine gT ?_ | refine gF ?_ | refine brT ?_ | refine brF ?_)
    refine And.intro (Int.natCast_nonneg j) (And.intro (show (j : Int) < (20 : Nat) by omega) ?_)
    refine mT (show Nat.ble ((0 + ((j : Int)).toNat * 1) + 1) (lenL (usedB [])) = true from ble_len (by rw [usedB_len]; omega)) ?_
    refine forceL_by (set_app (0 + ((j : Int)).toNat * 1) (usedB []) (.bool true) (by rw [usedB_len]; omega)) ?_
    refine And.intro (by decide) (And.intro (by decide) (And.intro (by decide) (And.intro (Nat.le_refl 1) ?_)))
    refine hP _ ?_ ⟨gk,e2⟩ (by omega)
    refine leR_by [(9,12)] [] rfl rfl (by decide) ⟨⟨by decide,rfl⟩,⟨by decide,rfl⟩,⟨by decide,rfl⟩,⟨by decide,by kernel_rfl⟩,⟨by decide,rfl⟩,rfl,int_eq hw,trivial⟩ ⟨⟨rfl,trivial,rfl⟩,⟨rfl,trivial,rfl⟩,⟨rfl,trivial,rfl⟩,⟨rfl,usedB_ones,⟨_,?_,usedB_cvs⟩⟩,⟨rfl,trivial,?_⟩,trivial⟩
    ·exact congrArg (fun x => some (Blk.box x)) (husd [])
    ·rfl
   | p :: r =>
    refine And.intro (Int.natCast_nonneg k) (And.intro (show (k : Int) < (ms.length : Int) by omega) ?_)
    refine Exists.intro _ (And.intro (show (ms.map mrow)[0 + ((k : Int)).toNat]? = some (mrow m) by rw [Nat.zero_add]; exact mrow_at hm1) ?_)
    refine lkS hfp ?_
    repeat (first | refine gT ?_ | refine gF ?_ | refine brT ?_ | refine brF ?_)
    refine And.intro (Int.natCast_nonneg j) (And.intro (show (j : Int) < (20 : Nat) by omega) ?_)
    repeat (first | refine gT ?_ | refine gF ?_ | refine brT ?_ | refine brF ?_)
    refine rdS hused ?_
    repeat (first | refine gT ?_ | refine gF ?_ | refine brT ?_ | refine brF ?_)
    first | refine Exists.intro _ (And.intro (q) ?_) | refine Hn_by (Exists.intro _ (And.intro (q) ?_))
    repeat (first | refine gT ?_ | refine gF ?_ | refine brT ?_ | refine brF ?_)
    refine And.intro (Int.natCast_nonneg j) (And.intro (show (j : Int) < (20 : Nat) by omega) ?_)
    refine mT (show Nat.ble ((0 + ((j : Int)).toNat * 1) + 1) (lenL (usedB (p :: r))) = true from ble_len (by rw [usedB_len]; omega)) ?_
    refine forceL_by (set_app (0 + ((j : Int)).toNat * 1) (usedB (p :: r)) (.bool true) (by rw [usedB_len]; omega)) ?_
    refine And.intro (show (p :: r).length = (irows .i64 (natI (p :: r))).length by rw [irows_len,natI_len]) (And.intro (Nat.le_refl 1) (And.intro (show ((p :: r).length + 1) * 8 <= 140737488355328 by omega) (And.intro (show (p :: r).length + 1 <= maxLen by simp only [maxLen]; omega) ?_)))
    refine hP _ ?_ ⟨gk,e2⟩ (by omega)
    refine leR_by [(9,12)] [] rfl rfl (by decide) ⟨⟨by decide,rfl⟩,⟨by decide,rfl⟩,⟨by decide,rfl⟩,⟨by decide,?_⟩,⟨by decide,rfl⟩,rfl,int_eq hw,trivial⟩ ⟨⟨rfl,trivial,rfl⟩,⟨rfl,trivial,rfl⟩,⟨rfl,trivial,rfl⟩,⟨rfl,usedB_ones,⟨_,?_,usedB_cvs⟩⟩,⟨rfl,trivial,?_⟩,trivial⟩
    ·show AV.ms 12 0 ((p :: r).length + 1) = AV.ms 12 0 ((p :: r) ++ [j]).length
     rw [List.length_append]; rfl
    ·exact congrArg (fun x => some (Blk.box x)) (husd (p :: r))
    ·show some (Blk.arr (3,1) (irows .i64 (natI (p :: r)) ++ [[.int .i64 (j : Int)]]) true) = some (Blk.arr (3,1) (irows .i64 (natI ((p :: r) ++ [j]))) true)
     unfold irows natI
     rw [List.map_append,List.map_append]; rfl
  ·have gk : ¬ k < ms.length:=by have : ¬ (k : Int) < (ms.length : Int):=g; omega
   rw [List.take_of_length_le (by omega),ht] at hs
   cases hs
   match tg with
   | [] => exact And.intro (Or.inr rfl) hK
   | p :: r => exact And.intro (Or.inr rfl) hK
 | x0 :: xs,[] =>
  refine aw_loopN (8 + 1) (fun x : Nat × List Nat => stOf [(0,.mv 0),(1,.ms 7 0 ms.length),(6,.bp 8 0),(7,nacV 9 x.2),(12,.ms 7 0 ms.length),(13,.int .i64 (ms.length : Int)),(14,.int .i64 (x.1 : Int))] ((0,.mp (entP 0 ins)) :: (7,.arr (72,6) (ms.map mrow) true) :: (2,.arr (3,1) (irows .i64 (natI (x0 :: xs))) true) :: ((8,.box (usedB x.2)) :: nacH 9 x.2)) 10) (fun x => x.1 <= ms.length ∧ tgP ins (ms.take x.1) = some x.2) (fun x => ms.length - x.1) (0,[]) ⟨Nat.zero_le _,rfl⟩
   (.inl (le_by ⟨rfl,rfl,rfl,rfl,rfl,int_eq (by first | rfl | rw [mrow_len]),rfl,trivial⟩ ⟨h0,h7,h2,rfl,trivial⟩ (Nat.le_succ (8 + 1)))) (by kernel_rfl) ?_
  rintro ⟨k,acc⟩ ⟨hk,hs⟩ P hP
  dsimp only at hk hs
  refine br (fun g => ?_) (fun g => ?_)
  ·have gk : k < ms.length:=by have : (k : Int) < (ms.length : Int):=g; omega
   obtain ⟨m,hm1⟩:=get_of gk
   have e1 : tgP ins (ms.take (k + 1)) = tstep ins (some acc) m:=by rw [take_snc2 hm1,tgP_snoc,hs]
   have q:=(qvalid_tot [] (hm m (List.mem_of_getElem? hm1))).1
   have hw:=w64_succ gk (by omega)
   have hfp:=findP_ent (q:=(m.st,m.co)) (l:=ins) (i:=0)
   cases hf : fnd (m.st,m.co) ins 0 with
   | none =>
    rw [tgP_bad (k:=k + 1) (e1.trans (by unfold tstep; simp only [hf]))] at ht
    cases ht
   | some j =>
   have hj : j < 20:=by have:=(fnd_lt hf).2; omega
   by_cases hc : j ∈ acc ∨ qB m.to = false
   ·rw [tgP_bad (k:=k + 1) (e1.trans (by unfold tstep; simp only [hf]; rw [if_pos hc]))] at ht
    cases ht
   have hja : j ∉ acc:=fun h => hc (.inl h)
   have hq : qB m.to = true:=by
    cases hb : qB m.to with
    | true => rfl
    | false => exact absurd (.inr hb) hc
   rw [hq] at q
   rw [hf] at hfp
   have e2 : tgP ins (ms.take (k + 1)) = some (acc ++ [j]):=e1.trans (by unfold tstep; simp only [hf]; rw [if_neg hc])
   have hln : acc.length <= 200:=by have:=(tgP_ok hs).1; rw [List.length_take] at this; omega
   have hused : (usedB acc)[0 + ((j : Int)).toNat * 1]? = some (.bool false):=by rw [Nat.zero_add,Int.toNat_natCast,Nat.mul_one,usedB_at hj,decide_eq_false hja]
   have husd : ∀ l : List Nat,(usedB l).set (0 + ((j : Int)).toNat * 1) (.bool true) = usedB (l ++ [j]):=fun l => by rw [Nat.zero_add,Int.toNat_natCast,Nat.mul_one,usedB_set hj]
   have hP:=hP (k + 1,acc ++ [j])
   dsimp only at hP
   match acc with
   | [] =>
    refine And.intro (Int.natCast_nonneg k) (And.intro (show (k : Int) < (ms.length : Int) by omega) ?_)
    refine Exists.intro _ (And.intro (show (ms.map mrow)[0 + ((k : Int)).toNat]? = some (mrow m) by rw [Nat.zero_add]; exact mrow_at hm1) ?_)
    refine lkS hfp ?_
    repeat (first | refine gT ?_ | refine gF ?_ | refine brT ?_ | refine brF ?_)
    refine And.intro (Int.natCast_nonneg j) (And.intro (show (j : Int) < (20 : Nat) by omega) ?_)
    repeat (first | refine gT ?_ | refine gF ?_ | refine brT ?_ | refine brF ?_)
    refine rdS hused ?_
    repeat (first | refine gT ?_ | refine gF ?_ | refine brT ?_ | refine brF ?_)
    first | refine Exists.intro _ (And.intro (q) ?_) | refine Hn_by (Exists.intro _ (And.intro (q) ?_))
    repeat (first | refine gT ?_ | refine gF ?_ | refine brT ?_ | refine brF ?_)
    refine And.intro (Int.natCast_nonneg j) (And.intro (show (j : Int) < (20 : Nat) by omega) ?_)
    refine mT (show Nat.ble ((0 + ((j : Int)).toNat * 1) + 1) (lenL (usedB [])) = true from ble_len (by rw [usedB_len]; omega)) ?_
    refine forceL_by (set_app (0 + ((j : Int)).toNat * 1) (usedB []) (.bool true) (by rw [usedB_len]; omega)) ?_
    refine And.intro (by decide) (And.intro (by decide) (And.intro (by decide) (And.intro (Nat.le_refl 1) ?_)))
    refine hP _ ?_ ⟨gk,e2⟩ (by omega)
    refine leR_by [(9,12)] [] rfl rfl (by decide) ⟨⟨by decide,rfl⟩,⟨by decide,rfl⟩,⟨by decide,rfl⟩,⟨by decide,by kernel_rfl⟩,⟨by decide,rfl⟩,rfl,int_eq hw,trivial⟩ ⟨⟨rfl,trivial,rfl⟩,⟨rfl,trivial,rfl⟩,⟨rfl,trivial,rfl⟩,⟨rfl,usedB_ones,⟨_,?_,usedB_cvs⟩⟩,⟨rfl,trivial,?_⟩,trivial⟩
    ·exact congrArg (fun x => some (Blk.box x)) (husd [])
    ·rfl
   | p :: r =>
    refine And.intro (Int.natCast_nonneg k) (And.intro (show (k : Int) < (ms.length : Int) by omega) ?_)
    refine Exists.intro _ (And.intro (show (ms.map mrow)[0 + ((k : Int)).toNat]? = some (mrow m) by rw [Nat.zero_add]; exact mrow_at hm1) ?_)
    refine lkS hfp ?_
    repeat (first | refine gT ?_ | refine gF ?_ | refine brT ?_ | refine brF ?_)
    refine And.intro (Int.natCast_nonneg j) (And.intro (show (j : Int) < (20 : Nat) by omega) ?_)
    repeat (first | refine gT ?_ | refine gF ?_ | refine brT ?_ | refine brF ?_)
    refine rdS hused ?_
    repeat (first | refine gT ?_ | refine gF ?_ | refine brT ?_ | refine brF ?_)
    first | refine Exists.intro _ (And.intro (q) ?_) | refine Hn_by (Exists.intro _ (And.intro (q) ?_))
    repeat (first | refine gT ?_ | refine gF ?_ | refine brT ?_ | refine brF ?_)
    refine And.intro (Int.natCast_nonneg j) (And.intro (show (j : Int) < (20 : Nat) by omega) ?_)
    refine mT (show Nat.ble ((0 + ((j : Int)).toNat * 1) + 1) (lenL (usedB (p :: r))) = true from ble_len (by rw [usedB_len]; omega)) ?_
    refine forceL_by (set_app (0 + ((j : Int)).toNat * 1) (usedB (p :: r)) (.bool true) (by rw [usedB_len]; omega)) ?_
    refine And.intro (show (p :: r).length = (irows .i64 (natI (p :: r))).length by rw [irows_len,natI_len]) (And.intro (Nat.le_refl 1) (And.intro (show ((p :: r).length + 1) * 8 <= 140737488355328 by omega) (And.intro (show (p :: r).length + 1 <= maxLen by simp only [maxLen]; omega) ?_)))
    refine hP _ ?_ ⟨gk,e2⟩ (by omega)
    refine leR_by [(9,12)] [] rfl rfl (by decide) ⟨⟨by decide,rfl⟩,⟨by decide,rfl⟩,⟨by decide,rfl⟩,⟨by decide,?_⟩,⟨by decide,rfl⟩,rfl,int_eq hw,trivial⟩ ⟨⟨rfl,trivial,rfl⟩,⟨rfl,trivial,rfl⟩,⟨rfl,trivial,rfl⟩,⟨rfl,usedB_ones,⟨_,?_,usedB_cvs⟩⟩,⟨rfl,trivial,?_⟩,trivial⟩
    ·show AV.ms 12 0 ((p :: r).length + 1) = AV.ms 12 0 ((p :: r) ++ [j]).length
     rw [List.length_append]; rfl
    ·exact congrArg (fun x => some (Blk.box x)) (husd (p :: r))
    ·show some (Blk.arr (3,1) (irows .i64 (natI (p :: r)) ++ [[.int .i64 (j : Int)]]) true) = some (Blk.arr (3,1) (irows .i64 (natI ((p :: r) ++ [j]))) true)
     unfold irows natI
     rw [List.map_append,List.map_append]; rfl
  ·have gk : ¬ k < ms.length:=by have : ¬ (k : Int) < (ms.length : Int):=g; omega
   rw [List.take_of_length_le (by omega),ht] at hs
   cases hs
   match tg with
   | [] => exact And.intro (Or.inr rfl) hK
   | p :: r => exact And.intro (Or.inr rfl) hK
 | x0 :: xs,y :: ys =>
  refine aw_loopN (8 + 1) (fun x : Nat × List Nat => stOf [(0,.mv 0),(1,.ms 7 0 ms.length),(6,.bp 8 0),(7,nacV 9 x.2),(12,.ms 7 0 ms.length),(13,.int .i64 (ms.length : Int)),(14,.int .i64 (x.1 : Int))] ((0,.mp (entP 0 ins)) :: (7,.arr (72,6) (ms.map mrow) true) :: (2,.arr (3,1) (irows .i64 (natI (x0 :: xs))) true) :: (4,.arr (3,1) (irows .i64 (natI (y :: ys))) true) :: ((8,.box (usedB x.2)) :: nacH 9 x.2)) 10) (fun x => x.1 <= ms.length ∧ tgP ins (ms.take x.1) = some x.2) (fun x => ms.length - x.1) (0,[]) ⟨Nat.zero_le _,rfl⟩
   (.inl (le_by ⟨rfl,rfl,rfl,rfl,rfl,int_eq (by first | rfl | rw [mrow_len]),rfl,trivial⟩ ⟨h0,h7,h2,h4,rfl,trivial⟩ (Nat.le_succ (8 + 1)))) (by kernel_rfl) ?_
  rintro ⟨k,acc⟩ ⟨hk,hs⟩ P hP
  dsimp only at hk hs
  refine br (fun g => ?_) (fun g => ?_)
  ·have gk : k < ms.length:=by have : (k : Int) < (ms.length : Int):=g; omega
   obtain ⟨m,hm1⟩:=get_of gk
   have e1 : tgP ins (ms.take (k + 1)) = tstep ins (some acc) m:=by rw [take_snc2 hm1,tgP_snoc,hs]
   have q:=(qvalid_tot [] (hm m (List.mem_of_getElem? hm1))).1
   have hw:=w64_succ gk (by omega)
   have hfp:=findP_ent (q:=(m.st,m.co)) (l:=ins) (i:=0)
   cases hf : fnd (m.st,m.co) ins 0 with
   | none =>
    rw [tgP_bad (k:=k + 1) (e1.trans (by unfold tstep; simp only [hf]))] at ht
    cases ht
   | some j =>
   have hj : j < 20:=by have:=(fnd_lt hf).2; omega
   by_cases hc : j ∈ acc ∨ qB m.to = false
   ·rw [tgP_bad (k:=k + 1) (e1.trans (by unfold tstep; simp only [hf]; rw [if_pos hc]))] at ht
    cases ht
   have hja : j ∉ acc:=fun h => hc (.inl h)
   have hq : qB m.to = true:=by
    cases hb : qB m.to with
    | true => rfl
    | false => exact absurd (.inr hb) hc
   rw [hq] at q
   rw [hf] at hfp
   have e2 : tgP ins (ms.take (k + 1)) = some (acc ++ [j]):=e1.trans (by unfold tstep; simp only [hf]; rw [if_neg hc])
   have hln : acc.length <= 200:=by have:=(tgP_ok hs).1; rw [List.length_take] at this; omega
   have hused : (usedB acc)[0 + ((j : Int)).toNat * 1]? = some (.bool false):=by rw [Nat.zero_add,Int.toNat_natCast,Nat.mul_one,usedB_at hj,decide_eq_false hja]
   have husd : ∀ l : List Nat,(usedB l).set (0 + ((j : Int)).toNat * 1) (.bool true) = usedB (l ++ [j]):=fun l => by rw [Nat.zero_add,Int.toNat_natCast,Nat.mul_one,usedB_set hj]
   have hP:=hP (k + 1,acc ++ [j])
   dsimp only at hP
   match acc with
   | [] =>
    refine And.intro (Int.natCast_nonneg k) (And.intro (show (k : Int) < (ms.length : Int) by omega) ?_)
    refine Exists.intro _ (And.intro (show (ms.map mrow)[0 + ((k : Int)).toNat]? = some (mrow m) by rw [Nat.zero_add]; exact mrow_at hm1) ?_)
    refine lkS hfp ?_
    repeat (first | refine gT ?_ | refine gF ?_ | refine brT ?_ | refine brF ?_)
    refine And.intro (Int.natCast_nonneg j) (And.intro (show (j : Int) < (20 : Nat) by omega) ?_)
    repeat (first | refine gT ?_ | refine gF ?_ | refine brT ?_ | refine brF ?_)
    refine rdS hused ?_
    repeat (first | refine gT ?_ | refine gF ?_ | refine brT ?_ | refine brF ?_)
    first | refine Exists.intro _ (And.intro (q) ?_) | refine Hn_by (Exists.intro _ (And.intro (q) ?_))
    repeat (first | refine gT ?_ | refine gF ?_ | refine brT ?_ | refine brF ?_)
    refine And.intro (Int.natCast_nonneg j) (And.intro (show (j : Int) < (20 : Nat) by omega) ?_)
    refine mT (show Nat.ble ((0 + ((j : Int)).toNat * 1) + 1) (lenL (usedB [])) = true from ble_len (by rw [usedB_len]; omega)) ?_
    refine forceL_by (set_app (0 + ((j : Int)).toNat * 1) (usedB []) (.bool true) (by rw [usedB_len]; omega)) ?_
    refine And.intro (by decide) (And.intro (by decide) (And.intro (by decide) (And.intro (Nat.le_refl 1) ?_)))
    refine hP _ ?_ ⟨gk,e2⟩ (by omega)
    refine leR_by [(9,12)] [] rfl rfl (by decide) ⟨⟨by decide,rfl⟩,⟨by decide,rfl⟩,⟨by decide,rfl⟩,⟨by decide,by kernel_rfl⟩,⟨by decide,rfl⟩,rfl,int_eq hw,trivial⟩ ⟨⟨rfl,trivial,rfl⟩,⟨rfl,trivial,rfl⟩,⟨rfl,trivial,rfl⟩,⟨rfl,trivial,rfl⟩,⟨rfl,usedB_ones,⟨_,?_,usedB_cvs⟩⟩,⟨rfl,trivial,?_⟩,trivial⟩
    ·exact congrArg (fun x => some (Blk.box x)) (husd [])
    ·rfl
   | p :: r =>
    refine And.intro (Int.natCast_nonneg k) (And.intro (show (k : Int) < (ms.length : Int) by omega) ?_)
    refine Exists.intro _ (And.intro (show (ms.map mrow)[0 + ((k : Int)).toNat]? = some (mrow m) by rw [Nat.zero_add]; exact mrow_at hm1) ?_)
    refine lkS hfp ?_
    repeat (first | refine gT ?_ | refine gF ?_ | refine brT ?_ | refine brF ?_)
    refine And.intro (Int.natCast_nonneg j) (And.intro (show (j : Int) < (20 : Nat) by omega) ?_)
    repeat (first | refine gT ?_ | refine gF ?_ | refine brT ?_ | refine brF ?_)
    refine rdS hused ?_
    repeat (first | refine gT ?_ | refine gF ?_ | refine brT ?_ | refine brF ?_)
    first | refine Exists.intro _ (And.intro (q) ?_) | refine Hn_by (Exists.intro _ (And.intro (q) ?_))
    repeat (first | refine gT ?_ | refine gF ?_ | refine brT ?_ | refine brF ?_)
    refine And.intro (Int.natCast_nonneg j) (And.intro (show (j : Int) < (20 : Nat) by omega) ?_)
    refine mT (show Nat.ble ((0 + ((j : Int)).toNat * 1) + 1) (lenL (usedB (p :: r))) = true from ble_len (by rw [usedB_len]; omega)) ?_
    refine forceL_by (set_app (0 + ((j : Int)).toNat * 1) (usedB (p :: r)) (.bool true) (by rw [usedB_len]; omega)) ?_
    refine And.intro (show (p :: r).length = (irows .i64 (natI (p :: r))).length by rw [irows_len,natI_len]) (And.intro (Nat.le_refl 1) (And.intro (show ((p :: r).length + 1) * 8 <= 140737488355328 by omega) (And.intro (show (p :: r).length + 1 <= maxLen by simp only [maxLen]; omega) ?_)))
    refine hP _ ?_ ⟨gk,e2⟩ (by omega)
    refine leR_by [(9,12)] [] rfl rfl (by decide) ⟨⟨by decide,rfl⟩,⟨by decide,rfl⟩,⟨by decide,rfl⟩,⟨by decide,?_⟩,⟨by decide,rfl⟩,rfl,int_eq hw,trivial⟩ ⟨⟨rfl,trivial,rfl⟩,⟨rfl,trivial,rfl⟩,⟨rfl,trivial,rfl⟩,⟨rfl,trivial,rfl⟩,⟨rfl,usedB_ones,⟨_,?_,usedB_cvs⟩⟩,⟨rfl,trivial,?_⟩,trivial⟩
    ·show AV.ms 12 0 ((p :: r).length + 1) = AV.ms 12 0 ((p :: r) ++ [j]).length
     rw [List.length_append]; rfl
    ·exact congrArg (fun x => some (Blk.box x)) (husd (p :: r))
    ·show some (Blk.arr (3,1) (irows .i64 (natI (p :: r)) ++ [[.int .i64 (j : Int)]]) true) = some (Blk.arr (3,1) (irows .i64 (natI ((p :: r) ++ [j]))) true)
     unfold irows natI
     rw [List.map_append,List.map_append]; rfl
  ·have gk : ¬ k < ms.length:=by have : ¬ (k : Int) < (ms.length : Int):=g; omega
   rw [List.take_of_length_le (by omega),ht] at hs
   cases hs
   match tg with
   | [] => exact And.intro (Or.inr rfl) hK
   | p :: r => exact And.intro (Or.inr rfl) hK
end Ab
end
section
open Go Go.Proofs
namespace Ab
set_option maxRecDepth 100000
set_option maxHeartbeats 1000000
theorem entP_len : ∀ {i : Nat} {l : List Pr},(entP i l).length = l.length
 | _,[] => rfl
 | i,p :: l => by rw [entP,List.length_cons,List.length_cons,entP_len]
theorem chk_ins {l : List Sp} (h : chkS l = 0) : (insP 0 l).length <= 20:=by
 unfold chkS at h
 split at h
 ·split at h
  ·exact absurd h (by decide)
  ·rename_i h2; omega
 ·exact absurd h (by decide)
noncomputable def movF (l : List Sp) (p : Ps) (ms : List Mv) : AV :=
 if chkS l = 0 then match p.all qB && ((p.length : Int) == ((insP 0 l).length : Int)) with
  | true => match tgP (insP 0 l) ms with
   | some tg => .tup [pthv [p,aftL p (tg.zip ms)],.int .i64 0]
   | none => .tup [.sl [],.int .i64 170]
  | false => .tup [.sl [],.int .i64 1]
 else .tup [.sl [],.int .i64 (chkS l)]
theorem posB_of {p : Ps} {n : Nat} (h : (p.all qB && ((p.length : Int) == (n : Int))) = true) : Okp p ∧ p.length = n:=by
 rw [Bool.and_eq_true,List.all_eq_true,beq_iff_eq] at h
 exact ⟨fun r hr => qB_iff.1 (h.1 r hr),by omega⟩
theorem natout (L : List Nat) : AV.sl (((irows .i64 (natI L)).drop 0).take L.length) = lin (natI L):=by rw [List.drop_zero,List.take_of_length_le (by rw [irows_len,natI_len]; exact Nat.le_refl _)]
theorem qoks {ins : List Pr} {ms : List Mv} {tg : List Nat} (h : tgP ins ms = some tg) : ∀ m ∈ ms,Qok m.to:=fun m hm => qB_iff.1 ((tgP_ok h).2.2 m hm)
theorem tg_lt {ins : List Pr} {ms : List Mv} {tg : List Nat} (h : tgP ins ms = some tg) : ∀ n ∈ tg,n < ins.length:=fun n hn => by
 obtain ⟨k,hk⟩:=List.mem_iff_getElem?.1 hn
 obtain ⟨h1,h2,_⟩:=tgP_ok h
 obtain ⟨m,hm⟩:=get_of (l:=ms) (i:=k) (by have:=(List.getElem?_eq_some_iff.1 hk).1; omega)
 have:=(fnd_lt (h2 k n m hk hm)).2
 omega
theorem move_spec {l : List Sp} {p : Ps} {ms : List Mv} (h : SpsOk l) (hl : (l.length : Int) <= 60) (hp : QDs p) (hpl : (p.length : Int) <= 9223372036854775807) (hm : MvsOk ms) (hml : ms.length <= 200) : Spec Tryz.prog [] 19 [stpv l,.sl p,mvv ms] (movF l p ms):=by
 unfold movF
 by_cases hc : chkS l = 0
 rotate_left
 ·rw [if_neg hc]
  refine spec_fn T_ok mixed_ok 1 Tryz.func19 fn_ok19 (by kernel_rfl) ?_
  refine inputs_bad h hl hc 0 (fun hp' n => ?_)
  refine brN (fun _ => ?_) (fun e => absurd e hc)
  exact And.intro (Or.inr rfl) rfl
 rw [if_pos hc]
 have h20:=chk_ins hc
 have v:=pvalid_spec (n:=((entP 0 (insP 0 l)).length : Int)) hp hpl
 rw [show (p.all qB && ((p.length : Int) == ((entP 0 (insP 0 l)).length : Int))) = (p.all qB && ((p.length : Int) == ((insP 0 l).length : Int))) by rw [entP_len]] at v
 cases hb : (p.all qB && ((p.length : Int) == ((insP 0 l).length : Int))) with
 | false =>
  rw [hb] at v
  refine spec_fn T_ok mixed_ok 1 Tryz.func19 fn_ok19 (by kernel_rfl) ?_
  refine inputs_in h hl hc 0 ?_
  repeat (first | refine gT ?_ | refine gF ?_ | refine brT ?_ | refine brF ?_)
  first | refine Exists.intro _ (And.intro (v) ?_) | refine Hn_by (Exists.intro _ (And.intro (v) ?_))
  repeat (first | refine gT ?_ | refine gF ?_ | refine brT ?_ | refine brF ?_)
  exact And.intro (Or.inr rfl) rfl
 | true =>
 rw [hb] at v
 obtain ⟨okp,hpl2⟩:=posB_of hb
 cases ht : tgP (insP 0 l) ms with
 | none =>
  refine spec_fn T_ok mixed_ok 1 Tryz.func19 fn_ok19 (by kernel_rfl) ?_
  refine inputs_in h hl hc 0 ?_
  repeat (first | refine gT ?_ | refine gF ?_ | refine brT ?_ | refine brF ?_)
  first | refine Exists.intro _ (And.intro (v) ?_) | refine Hn_by (Exists.intro _ (And.intro (v) ?_))
  repeat (first | refine gT ?_ | refine gF ?_ | refine brT ?_ | refine brF ?_)
  refine targ_bad1 h20 hm hml ht 0 rfl (fun hp' _ => ?_)
  repeat (first | refine gT ?_ | refine gF ?_ | refine brT ?_ | refine brF ?_)
  exact And.intro (Or.inr rfl) rfl
 | some tg =>
  have o:=ownAll_spec okp (by omega)
  have a:=after_spec okp (by omega) (fun n hn => by rw [hpl2]; exact tg_lt ht n hn) (tgP_ok ht).1 (qoks ht) hml
  rw [<- natout tg] at a
  refine spec_fn T_ok mixed_ok 1 Tryz.func19 fn_ok19 (by kernel_rfl) ?_
  refine inputs_in h hl hc 0 ?_
  repeat (first | refine gT ?_ | refine gF ?_ | refine brT ?_ | refine brF ?_)
  first | refine Exists.intro _ (And.intro (v) ?_) | refine Hn_by (Exists.intro _ (And.intro (v) ?_))
  repeat (first | refine gT ?_ | refine gF ?_ | refine brT ?_ | refine brF ?_)
  refine targ_ok1 h20 hm hml ht 0 rfl ?_
  match tg with
  | [] =>
   repeat (first | refine gT ?_ | refine gF ?_ | refine brT ?_ | refine brF ?_)
   first | refine Exists.intro _ (And.intro (o) ?_) | refine Hn_by (Exists.intro _ (And.intro (o) ?_))
   first | refine Exists.intro _ (And.intro (a) ?_) | refine Hn_by (Exists.intro _ (And.intro (a) ?_))
   exact And.intro (Or.inr rfl) (And.intro (Nat.le_refl 2) rfl)
  | x :: r =>
   repeat (first | refine gT ?_ | refine gF ?_ | refine brT ?_ | refine brF ?_)
   first | refine Exists.intro _ (And.intro (o) ?_) | refine Hn_by (Exists.intro _ (And.intro (o) ?_))
   refine Hn_by (And.intro (show 0 + (x :: r).length <= (irows .i64 (natI (x :: r))).length by rw [irows_len,natI_len]; omega) (Exists.intro _ (And.intro a ?_)))
   exact And.intro (Or.inr rfl) (And.intro (Nat.le_refl 2) rfl)
theorem rmove_spec {l : List Sp} {p : Ps} {ms : List Mv} (h : SpsOk l) (hl : (l.length : Int) <= 60) (hp : QDs p) (hpl : (p.length : Int) <= 9223372036854775807) (hm : MvsOk ms) (hml : ms.length <= 200) : Spec Tryz.prog [] 20 [stpv l,.sl p,mvv ms] (movF l p ms):=by
 have c:=rInputs_spec h hl
 unfold insF at c
 unfold movF
 by_cases hc : chkS l = 0
 rotate_left
 ·rw [if_neg hc] at c ⊢
  refine spec_fn T_ok mixed_ok 0 Tryz.func20 fn_ok20 (by kernel_rfl) ?_
  first | refine Exists.intro _ (And.intro (c) ?_) | refine Hn_by (Exists.intro _ (And.intro (c) ?_))
  refine brN (fun _ => ?_) (fun e => absurd e hc)
  exact And.intro (Or.inr rfl) rfl
 rw [if_pos hc] at c ⊢
 have h20:=chk_ins hc
 have v:=position_spec (n:=(((insP 0 l).map prw).length : Int)) hp hpl
 rw [show (p.all qB && ((p.length : Int) == (((insP 0 l).map prw).length : Int))) = (p.all qB && ((p.length : Int) == ((insP 0 l).length : Int))) by rw [List.length_map]] at v
 cases hb : (p.all qB && ((p.length : Int) == ((insP 0 l).length : Int))) with
 | false =>
  rw [hb] at v
  refine spec_fn T_ok mixed_ok 0 Tryz.func20 fn_ok20 (by kernel_rfl) ?_
  first | refine Exists.intro _ (And.intro (c) ?_) | refine Hn_by (Exists.intro _ (And.intro (c) ?_))
  repeat (first | refine gT ?_ | refine gF ?_ | refine brT ?_ | refine brF ?_)
  first | refine Exists.intro _ (And.intro (v) ?_) | refine Hn_by (Exists.intro _ (And.intro (v) ?_))
  repeat (first | refine gT ?_ | refine gF ?_ | refine brT ?_ | refine brF ?_)
  exact And.intro (Or.inr rfl) rfl
 | true =>
 rw [hb] at v
 obtain ⟨okp,hpl2⟩:=posB_of hb
 have ap:=apply_spec (ins:=insP 0 l) (ms:=ms) (by omega) hm (by omega)
 cases ht : tgP (insP 0 l) ms with
 | none =>
  rw [ht] at ap
  refine spec_fn T_ok mixed_ok 0 Tryz.func20 fn_ok20 (by kernel_rfl) ?_
  first | refine Exists.intro _ (And.intro (c) ?_) | refine Hn_by (Exists.intro _ (And.intro (c) ?_))
  repeat (first | refine gT ?_ | refine gF ?_ | refine brT ?_ | refine brF ?_)
  first | refine Exists.intro _ (And.intro (v) ?_) | refine Hn_by (Exists.intro _ (And.intro (v) ?_))
  repeat (first | refine gT ?_ | refine gF ?_ | refine brT ?_ | refine brF ?_)
  first | refine Exists.intro _ (And.intro (ap) ?_) | refine Hn_by (Exists.intro _ (And.intro (ap) ?_))
  repeat (first | refine gT ?_ | refine gF ?_ | refine brT ?_ | refine brF ?_)
  exact And.intro (Or.inr rfl) rfl
 | some tg =>
  rw [ht] at ap
  have a:=rafter_spec h20 okp hpl2 ht (qoks ht) hml
  refine spec_fn T_ok mixed_ok 0 Tryz.func20 fn_ok20 (by kernel_rfl) ?_
  first | refine Exists.intro _ (And.intro (c) ?_) | refine Hn_by (Exists.intro _ (And.intro (c) ?_))
  repeat (first | refine gT ?_ | refine gF ?_ | refine brT ?_ | refine brF ?_)
  first | refine Exists.intro _ (And.intro (v) ?_) | refine Hn_by (Exists.intro _ (And.intro (v) ?_))
  repeat (first | refine gT ?_ | refine gF ?_ | refine brT ?_ | refine brF ?_)
  first | refine Exists.intro _ (And.intro (ap) ?_) | refine Hn_by (Exists.intro _ (And.intro (ap) ?_))
  repeat (first | refine gT ?_ | refine gF ?_ | refine brT ?_ | refine brF ?_)
  refine And.intro rfl (And.intro (rowsOk4 hp) (And.intro (show (0 + p.length) * 64 <= 140737488355328 by omega) (And.intro (show 0 + p.length <= maxLen by simp only [maxLen]; omega) ?_)))
  first | refine Exists.intro _ (And.intro (a) ?_) | refine Hn_by (Exists.intro _ (And.intro (a) ?_))
  refine And.intro (Or.inr rfl) (And.intro (Nat.le_refl 2) (And.intro (show 0 + (0 + p.length) <= (([] : Ps) ++ p).length by simp) ?_))
  refine congrArg (fun x => AV.tup [AV.sl [[AV.sl x],[AV.sl (aftL p (tg.zip ms))]],.int .i64 0]) (?_ : ((([] : Ps) ++ p).drop 0).take (0 + p.length) = p)
  simp
end Ab
end
section
open Go Go.Proofs
namespace Ab
set_option maxRecDepth 100000
set_option maxHeartbeats 1000000
theorem tgP_snoc_some {ins : List Pr} {ms : List Mv} {m : Mv} {u : List Nat} (h : tgP ins (ms ++ [m]) = some u) : ∃ u0 n,tgP ins ms = some u0 ∧ fnd (m.st,m.co) ins 0 = some n ∧ ¬ (n ∈ u0 ∨ qB m.to = false) ∧ u = u0 ++ [n]:=by
 rw [tgP_snoc] at h
 cases ho : tgP ins ms with
 | none => rw [ho] at h; cases h
 | some u0 =>
  rw [ho] at h
  unfold tstep at h
  simp only at h
  split at h
  ·cases h
  ·rename_i n hn
   split at h
   ·cases h
   ·rename_i hc
    cases h
    exact ⟨u0,n,rfl,hn,hc,rfl⟩
theorem tgP_app1 {ins : List Pr} {a : List Mv} {t : List Nat} (ha : tgP ins a = some t) : ∀ (r : List Mv) {u : List Nat},tgP ins r.reverse = some u -> ((∀ n ∈ u,n ∉ t) -> tgP ins (a ++ r.reverse) = some (t ++ u)) ∧ ((∃ n,n ∈ u ∧ n ∈ t) -> tgP ins (a ++ r.reverse) = none)
 | [],u,h => by
  cases h
  exact ⟨fun _ => by simpa using ha,fun ⟨n,hn,_⟩ => by cases hn⟩
 | m :: r,u,h => by
  rw [List.reverse_cons] at h ⊢
  obtain ⟨u0,n,h1,h2,h3,rfl⟩:=tgP_snoc_some h
  obtain ⟨i1,i2⟩:=tgP_app1 ha r h1
  rw [<- List.append_assoc,tgP_snoc]
  refine ⟨fun hd => ?_,fun ⟨k,hk,hkt⟩ => ?_⟩
  ·rw [i1 fun k hk => hd k (by simp [hk])]
   unfold tstep
   simp only [h2]
   rw [if_neg,List.append_assoc]
   rintro (e | e)
   ·rcases List.mem_append.1 e with e | e
    ·exact hd n (by simp) e
    ·exact h3 (.inl e)
   ·exact h3 (.inr e)
  ·by_cases he : ∃ n,n ∈ u0 ∧ n ∈ t
   ·rw [i2 he]; rfl
   ·have hd : ∀ n ∈ u0,n ∉ t:=fun n h1 h2 => he ⟨n,h1,h2⟩
    rw [i1 hd]
    unfold tstep
    simp only [h2]
    rw [if_pos]
    left
    rcases List.mem_append.1 hk with hk | hk
    ·exact absurd ⟨k,hk,hkt⟩ he
    ·rw [List.mem_singleton.1 hk] at hkt
     exact List.mem_append_left _ hkt
theorem tgP_app {ins : List Pr} {a b : List Mv} {t u : List Nat} (ha : tgP ins a = some t) (hb : tgP ins b = some u) : ((∀ n ∈ u,n ∉ t) -> tgP ins (a ++ b) = some (t ++ u)) ∧ ((∃ n,n ∈ u ∧ n ∈ t) -> tgP ins (a ++ b) = none):=by
 have:=tgP_app1 ha b.reverse (u:=u) (by rw [List.reverse_reverse]; exact hb)
 rw [List.reverse_reverse] at this
 exact this
noncomputable def lopF (l : List Sp) (p : Ps) (a b : List Mv) : AV :=
 if chkS l = 0 then match p.all qB && ((p.length : Int) == ((insP 0 l).length : Int)) with
  | true => match tgP (insP 0 l) a,tgP (insP 0 l) b,tgP (insP 0 l) (a ++ b) with
   | some t,some u,some _ => .tup [pthv [p,aftL p (t.zip a),aftL (aftL p (t.zip a)) (u.zip b),aftL p (u.zip b),p],.int .i64 0]
   | _,_,_ => .tup [.sl [],.int .i64 170]
  | false => .tup [.sl [],.int .i64 1]
 else .tup [.sl [],.int .i64 (chkS l)]
theorem mrows_ok (l : List Mv) : RowsOk 6 (l.map mrow):=fun r hr => by
 obtain ⟨x,_,rfl⟩:=List.mem_map.1 hr; rfl
theorem loop_spec {l : List Sp} {p : Ps} {a b : List Mv} (h : SpsOk l) (hl : (l.length : Int) <= 60) (hp : QDs p) (hpl : (p.length : Int) <= 9223372036854775807) (ha : MvsOk a) (hb : MvsOk b) (hal : a.length <= 60) (hbl : b.length <= 60) : Spec Tryz.prog [] 21 [stpv l,.sl p,mvv a,mvv b] (lopF l p a b):=by
 unfold lopF
 by_cases hc : chkS l = 0
 rotate_left
 ·rw [if_neg hc]
  refine spec_fnX T_ok mixed_ok 1 Tryz.func21 fn_ok21 (by kernel_rfl) ?_
  refine inputs_bad h hl hc 0 (fun hp' n => ?_)
  refine brN (fun _ => ?_) (fun e => absurd e hc)
  exact And.intro (Or.inr rfl) rfl
 rw [if_pos hc]
 have h20:=chk_ins hc
 have v:=pvalid_spec (n:=((entP 0 (insP 0 l)).length : Int)) hp hpl
 rw [show (p.all qB && ((p.length : Int) == ((entP 0 (insP 0 l)).length : Int))) = (p.all qB && ((p.length : Int) == ((insP 0 l).length : Int))) by rw [entP_len]] at v
 cases hb1 : (p.all qB && ((p.length : Int) == ((insP 0 l).length : Int))) with
 | false =>
  rw [hb1] at v
  refine spec_fnX T_ok mixed_ok 1 Tryz.func21 fn_ok21 (by kernel_rfl) ?_
  refine inputs_in h hl hc 0 ?_
  repeat (first | refine gT ?_ | refine gF ?_ | refine brT ?_ | refine brF ?_)
  first | refine Exists.intro _ (And.intro (v) ?_) | refine Hn_by (Exists.intro _ (And.intro (v) ?_))
  repeat (first | refine gT ?_ | refine gF ?_ | refine brT ?_ | refine brF ?_)
  exact And.intro (Or.inr rfl) rfl
 | true =>
 rw [hb1] at v
 obtain ⟨okp,hpl2⟩:=posB_of hb1
 cases ht : tgP (insP 0 l) a with
 | none =>
  cases hu : tgP (insP 0 l) b with
  | none =>
   refine spec_fnX T_ok mixed_ok 1 Tryz.func21 fn_ok21 (by kernel_rfl) ?_
   refine inputs_in h hl hc 0 ?_
   repeat (first | refine gT ?_ | refine gF ?_ | refine brT ?_ | refine brF ?_)
   first | refine Exists.intro _ (And.intro (v) ?_) | refine Hn_by (Exists.intro _ (And.intro (v) ?_))
   repeat (first | refine gT ?_ | refine gF ?_ | refine brT ?_ | refine brF ?_)
   refine targ_bad1 h20 ha (by omega) ht 0 rfl (fun hp' h0 => ?_)
   refine targ_bad1 h20 hb (by omega) hu 0 h0 (fun hp' h0 => ?_)
   repeat (first | refine gT ?_ | refine gF ?_ | refine brT ?_ | refine brF ?_)
   exact And.intro (Or.inr rfl) rfl
  | some u =>
   refine spec_fnX T_ok mixed_ok 1 Tryz.func21 fn_ok21 (by kernel_rfl) ?_
   refine inputs_in h hl hc 0 ?_
   repeat (first | refine gT ?_ | refine gF ?_ | refine brT ?_ | refine brF ?_)
   first | refine Exists.intro _ (And.intro (v) ?_) | refine Hn_by (Exists.intro _ (And.intro (v) ?_))
   repeat (first | refine gT ?_ | refine gF ?_ | refine brT ?_ | refine brF ?_)
   refine targ_bad1 h20 ha (by omega) ht 0 rfl (fun hp' h0 => ?_)
   refine targ_ok1 h20 hb (by omega) hu 0 h0 ?_
   match u with
   | [] =>
    repeat (first | refine gT ?_ | refine gF ?_ | refine brT ?_ | refine brF ?_)
    exact And.intro (Or.inr rfl) rfl
   | y :: ys =>
    repeat (first | refine gT ?_ | refine gF ?_ | refine brT ?_ | refine brF ?_)
    exact And.intro (Or.inr rfl) rfl
 | some t =>
 cases hu : tgP (insP 0 l) b with
 | none =>
  refine spec_fnX T_ok mixed_ok 1 Tryz.func21 fn_ok21 (by kernel_rfl) ?_
  refine inputs_in h hl hc 0 ?_
  repeat (first | refine gT ?_ | refine gF ?_ | refine brT ?_ | refine brF ?_)
  first | refine Exists.intro _ (And.intro (v) ?_) | refine Hn_by (Exists.intro _ (And.intro (v) ?_))
  repeat (first | refine gT ?_ | refine gF ?_ | refine brT ?_ | refine brF ?_)
  refine targ_ok1 h20 ha (by omega) ht 0 rfl ?_
  match t with
  | [] =>
   refine targ_bad2 h20 hb (by omega) hu 0 rfl (fun hp' => ?_)
   repeat (first | refine gT ?_ | refine gF ?_ | refine brT ?_ | refine brF ?_)
   exact And.intro (Or.inr rfl) rfl
  | y :: ys =>
   refine targ_bad2 h20 hb (by omega) hu 0 rfl (fun hp' => ?_)
   repeat (first | refine gT ?_ | refine gF ?_ | refine brT ?_ | refine brF ?_)
   exact And.intro (Or.inr rfl) rfl
 | some u =>
 have mm : MvsOk (a ++ b):=fun m hm => (List.mem_append.1 hm).elim (ha m) (hb m)
 have hlab : (a ++ b).length = a.length + b.length:=List.length_append
 cases hw : tgP (insP 0 l) (a ++ b) with
 | none =>
  refine spec_fnX T_ok mixed_ok 1 Tryz.func21 fn_ok21 (by kernel_rfl) ?_
  refine inputs_in h hl hc 0 ?_
  repeat (first | refine gT ?_ | refine gF ?_ | refine brT ?_ | refine brF ?_)
  first | refine Exists.intro _ (And.intro (v) ?_) | refine Hn_by (Exists.intro _ (And.intro (v) ?_))
  repeat (first | refine gT ?_ | refine gF ?_ | refine brT ?_ | refine brF ?_)
  refine targ_ok1 h20 ha (by omega) ht 0 rfl ?_
  match t with
  | [] =>
   refine targ_ok2 (a1:=[]) h20 hb (by omega) hu 0 rfl trivial ?_
   match u with
   | [] =>
    repeat (first | refine gT ?_ | refine gF ?_ | refine brT ?_ | refine brF ?_)
    refine And.intro rfl (And.intro (mrows_ok a) (And.intro (show (0 + (a.map mrow).length) * 80 <= 140737488355328 by rw [mrow_len]; omega) (And.intro (show 0 + (a.map mrow).length <= maxLen by rw [mrow_len]; simp only [maxLen]; omega) ?_)))
    refine And.intro (show 0 + (a.map mrow).length = ([] ++ a.map mrow).length by simp) (And.intro (mrows_ok b) (And.intro (show (0 + (a.map mrow).length + (b.map mrow).length) * 80 <= 140737488355328 by rw [mrow_len,mrow_len]; omega) (And.intro (show 0 + (a.map mrow).length + (b.map mrow).length <= maxLen by rw [mrow_len,mrow_len]; simp only [maxLen]; omega) ?_)))
    refine targ_bad3 h20 mm (by omega) hw 0 rfl (by rw [mrow_len,mrow_len]; omega) (show some (Blk.arr (72,6) ([] ++ a.map mrow ++ b.map mrow) true) = _ by rw [List.map_append]; rfl) (fun hp' => ?_)
    repeat (first | refine gT ?_ | refine gF ?_ | refine brT ?_ | refine brF ?_)
    exact And.intro (Or.inr rfl) rfl
   | y :: ys =>
    repeat (first | refine gT ?_ | refine gF ?_ | refine brT ?_ | refine brF ?_)
    refine And.intro rfl (And.intro (mrows_ok a) (And.intro (show (0 + (a.map mrow).length) * 80 <= 140737488355328 by rw [mrow_len]; omega) (And.intro (show 0 + (a.map mrow).length <= maxLen by rw [mrow_len]; simp only [maxLen]; omega) ?_)))
    refine And.intro (show 0 + (a.map mrow).length = ([] ++ a.map mrow).length by simp) (And.intro (mrows_ok b) (And.intro (show (0 + (a.map mrow).length + (b.map mrow).length) * 80 <= 140737488355328 by rw [mrow_len,mrow_len]; omega) (And.intro (show 0 + (a.map mrow).length + (b.map mrow).length <= maxLen by rw [mrow_len,mrow_len]; simp only [maxLen]; omega) ?_)))
    refine targ_bad3 h20 mm (by omega) hw 0 rfl (by rw [mrow_len,mrow_len]; omega) (show some (Blk.arr (72,6) ([] ++ a.map mrow ++ b.map mrow) true) = _ by rw [List.map_append]; rfl) (fun hp' => ?_)
    repeat (first | refine gT ?_ | refine gF ?_ | refine brT ?_ | refine brF ?_)
    exact And.intro (Or.inr rfl) rfl
  | x0 :: xs =>
   refine targ_ok2 (a1:=(x0 :: xs)) h20 hb (by omega) hu 0 rfl rfl ?_
   match u with
   | [] =>
    repeat (first | refine gT ?_ | refine gF ?_ | refine brT ?_ | refine brF ?_)
    refine And.intro rfl (And.intro (mrows_ok a) (And.intro (show (0 + (a.map mrow).length) * 80 <= 140737488355328 by rw [mrow_len]; omega) (And.intro (show 0 + (a.map mrow).length <= maxLen by rw [mrow_len]; simp only [maxLen]; omega) ?_)))
    refine And.intro (show 0 + (a.map mrow).length = ([] ++ a.map mrow).length by simp) (And.intro (mrows_ok b) (And.intro (show (0 + (a.map mrow).length + (b.map mrow).length) * 80 <= 140737488355328 by rw [mrow_len,mrow_len]; omega) (And.intro (show 0 + (a.map mrow).length + (b.map mrow).length <= maxLen by rw [mrow_len,mrow_len]; simp only [maxLen]; omega) ?_)))
    refine targ_bad3 h20 mm (by omega) hw 0 rfl (by rw [mrow_len,mrow_len]; omega) (show some (Blk.arr (72,6) ([] ++ a.map mrow ++ b.map mrow) true) = _ by rw [List.map_append]; rfl) (fun hp' => ?_)
    repeat (first | refine gT ?_ | refine gF ?_ | refine brT ?_ | refine brF ?_)
    exact And.intro (Or.inr rfl) rfl
   | y :: ys =>
    repeat (first | refine gT ?_ | refine gF ?_ | refine brT ?_ | refine brF ?_)
    refine And.intro rfl (And.intro (mrows_ok a) (And.intro (show (0 + (a.map mrow).length) * 80 <= 140737488355328 by rw [mrow_len]; omega) (And.intro (show 0 + (a.map mrow).length <= maxLen by rw [mrow_len]; simp only [maxLen]; omega) ?_)))
    refine And.intro (show 0 + (a.map mrow).length = ([] ++ a.map mrow).length by simp) (And.intro (mrows_ok b) (And.intro (show (0 + (a.map mrow).length + (b.map mrow).length) * 80 <= 140737488355328 by rw [mrow_len,mrow_len]; omega) (And.intro (show 0 + (a.map mrow).length + (b.map mrow).length <= maxLen by rw [mrow_len,mrow_len]; simp only [maxLen]; omega) ?_)))
    refine targ_bad3 h20 mm (by omega) hw 0 rfl (by rw [mrow_len,mrow_len]; omega) (show some (Blk.arr (72,6) ([] ++ a.map mrow ++ b.map mrow) true) = _ by rw [List.map_append]; rfl) (fun hp' => ?_)
    repeat (first | refine gT ?_ | refine gF ?_ | refine brT ?_ | refine brF ?_)
    exact And.intro (Or.inr rfl) rfl
 | some w =>
  have ew : w = t ++ u:=by
   obtain ⟨i1,i2⟩:=tgP_app ht hu
   by_cases he : ∃ n,n ∈ u ∧ n ∈ t
   ·rw [i2 he] at hw; cases hw
   ·rw [i1 fun n h1 h2 => he ⟨n,h1,h2⟩] at hw; cases hw; rfl
  subst ew
  have o:=ownAll_spec okp (by omega)
  have hqa:=qoks ht
  have hqb:=qoks hu
  have okq : Okp (aftL p (t.zip a)):=aftL_ok okp (zip_to hqa)
  have lq : (aftL p (t.zip a)).length = p.length:=aftL_len _ _
  have f1:=after_spec okp (by omega) (fun n hn => by rw [hpl2]; exact tg_lt ht n hn) (tgP_ok ht).1 hqa (by omega)
  have f2:=after_spec okq (by omega) (fun n hn => by rw [lq,hpl2]; exact tg_lt hu n hn) (tgP_ok hu).1 hqb (by omega)
  have f3:=after_spec okp (by omega) (fun n hn => by rw [hpl2]; exact tg_lt hu n hn) (tgP_ok hu).1 hqb (by omega)
  rw [<- natout t] at f1
  rw [<- natout u] at f2 f3
  refine spec_fnX T_ok mixed_ok 1 Tryz.func21 fn_ok21 (by kernel_rfl) ?_
  refine inputs_in h hl hc 0 ?_
  repeat (first | refine gT ?_ | refine gF ?_ | refine brT ?_ | refine brF ?_)
  first | refine Exists.intro _ (And.intro (v) ?_) | refine Hn_by (Exists.intro _ (And.intro (v) ?_))
  repeat (first | refine gT ?_ | refine gF ?_ | refine brT ?_ | refine brF ?_)
  refine targ_ok1 h20 ha (by omega) ht 0 rfl ?_
  match t with
  | [] =>
   refine targ_ok2 (a1:=[]) h20 hb (by omega) hu 0 rfl trivial ?_
   match u with
   | [] =>
    repeat (first | refine gT ?_ | refine gF ?_ | refine brT ?_ | refine brF ?_)
    refine And.intro rfl (And.intro (mrows_ok a) (And.intro (show (0 + (a.map mrow).length) * 80 <= 140737488355328 by rw [mrow_len]; omega) (And.intro (show 0 + (a.map mrow).length <= maxLen by rw [mrow_len]; simp only [maxLen]; omega) ?_)))
    refine And.intro (show 0 + (a.map mrow).length = ([] ++ a.map mrow).length by simp) (And.intro (mrows_ok b) (And.intro (show (0 + (a.map mrow).length + (b.map mrow).length) * 80 <= 140737488355328 by rw [mrow_len,mrow_len]; omega) (And.intro (show 0 + (a.map mrow).length + (b.map mrow).length <= maxLen by rw [mrow_len,mrow_len]; simp only [maxLen]; omega) ?_)))
    refine targ_ok3 (a1:=[]) (a2:=[]) h20 mm (by omega) hw 0 rfl (by rw [mrow_len,mrow_len]; omega) (show some (Blk.arr (72,6) ([] ++ a.map mrow ++ b.map mrow) true) = _ by rw [List.map_append]; rfl) trivial trivial ?_
    repeat (first | refine gT ?_ | refine gF ?_ | refine brT ?_ | refine brF ?_)
    first | refine Exists.intro _ (And.intro (f1) ?_) | refine Hn_by (Exists.intro _ (And.intro (f1) ?_))
    first | refine Exists.intro _ (And.intro (o) ?_) | refine Hn_by (Exists.intro _ (And.intro (o) ?_))
    first | refine Exists.intro _ (And.intro (f2) ?_) | refine Hn_by (Exists.intro _ (And.intro (f2) ?_))
    first | refine Exists.intro _ (And.intro (f3) ?_) | refine Hn_by (Exists.intro _ (And.intro (f3) ?_))
    first | refine Exists.intro _ (And.intro (o) ?_) | refine Hn_by (Exists.intro _ (And.intro (o) ?_))
    exact And.intro (Or.inr rfl) (And.intro (And.intro rfl (Nat.le_refl 5)) rfl)
   | y :: ys =>
    repeat (first | refine gT ?_ | refine gF ?_ | refine brT ?_ | refine brF ?_)
    refine And.intro rfl (And.intro (mrows_ok a) (And.intro (show (0 + (a.map mrow).length) * 80 <= 140737488355328 by rw [mrow_len]; omega) (And.intro (show 0 + (a.map mrow).length <= maxLen by rw [mrow_len]; simp only [maxLen]; omega) ?_)))
    refine And.intro (show 0 + (a.map mrow).length = ([] ++ a.map mrow).length by simp) (And.intro (mrows_ok b) (And.intro (show (0 + (a.map mrow).length + (b.map mrow).length) * 80 <= 140737488355328 by rw [mrow_len,mrow_len]; omega) (And.intro (show 0 + (a.map mrow).length + (b.map mrow).length <= maxLen by rw [mrow_len,mrow_len]; simp only [maxLen]; omega) ?_)))
    refine targ_ok3 (a1:=[]) (a2:=(y :: ys)) h20 mm (by omega) hw 0 rfl (by rw [mrow_len,mrow_len]; omega) (show some (Blk.arr (72,6) ([] ++ a.map mrow ++ b.map mrow) true) = _ by rw [List.map_append]; rfl) trivial rfl ?_
    repeat (first | refine gT ?_ | refine gF ?_ | refine brT ?_ | refine brF ?_)
    first | refine Exists.intro _ (And.intro (f1) ?_) | refine Hn_by (Exists.intro _ (And.intro (f1) ?_))
    first | refine Exists.intro _ (And.intro (o) ?_) | refine Hn_by (Exists.intro _ (And.intro (o) ?_))
    refine Hn_by (And.intro (show 0 + (y :: ys).length <= (irows .i64 (natI (y :: ys))).length by rw [irows_len,natI_len]; omega) (Exists.intro _ (And.intro f2 ?_)))
    refine Hn_by (And.intro (show 0 + (y :: ys).length <= (irows .i64 (natI (y :: ys))).length by rw [irows_len,natI_len]; omega) (Exists.intro _ (And.intro f3 ?_)))
    first | refine Exists.intro _ (And.intro (o) ?_) | refine Hn_by (Exists.intro _ (And.intro (o) ?_))
    exact And.intro (Or.inr rfl) (And.intro (And.intro rfl (Nat.le_refl 5)) rfl)
  | x0 :: xs =>
   refine targ_ok2 (a1:=(x0 :: xs)) h20 hb (by omega) hu 0 rfl rfl ?_
   match u with
   | [] =>
    repeat (first | refine gT ?_ | refine gF ?_ | refine brT ?_ | refine brF ?_)
    refine And.intro rfl (And.intro (mrows_ok a) (And.intro (show (0 + (a.map mrow).length) * 80 <= 140737488355328 by rw [mrow_len]; omega) (And.intro (show 0 + (a.map mrow).length <= maxLen by rw [mrow_len]; simp only [maxLen]; omega) ?_)))
    refine And.intro (show 0 + (a.map mrow).length = ([] ++ a.map mrow).length by simp) (And.intro (mrows_ok b) (And.intro (show (0 + (a.map mrow).length + (b.map mrow).length) * 80 <= 140737488355328 by rw [mrow_len,mrow_len]; omega) (And.intro (show 0 + (a.map mrow).length + (b.map mrow).length <= maxLen by rw [mrow_len,mrow_len]; simp only [maxLen]; omega) ?_)))
    refine targ_ok3 (a1:=(x0 :: xs)) (a2:=[]) h20 mm (by omega) hw 0 rfl (by rw [mrow_len,mrow_len]; omega) (show some (Blk.arr (72,6) ([] ++ a.map mrow ++ b.map mrow) true) = _ by rw [List.map_append]; rfl) rfl trivial ?_
    repeat (first | refine gT ?_ | refine gF ?_ | refine brT ?_ | refine brF ?_)
    refine Hn_by (And.intro (show 0 + (x0 :: xs).length <= (irows .i64 (natI (x0 :: xs))).length by rw [irows_len,natI_len]; omega) (Exists.intro _ (And.intro f1 ?_)))
    first | refine Exists.intro _ (And.intro (o) ?_) | refine Hn_by (Exists.intro _ (And.intro (o) ?_))
    first | refine Exists.intro _ (And.intro (f2) ?_) | refine Hn_by (Exists.intro _ (And.intro (f2) ?_))
    first | refine Exists.intro _ (And.intro (f3) ?_) | refine Hn_by (Exists.intro _ (And.intro (f3) ?_))
    first | refine Exists.intro _ (And.intro (o) ?_) | refine Hn_by (Exists.intro _ (And.intro (o) ?_))
    exact And.intro (Or.inr rfl) (And.intro (And.intro rfl (Nat.le_refl 5)) rfl)
   | y :: ys =>
    repeat (first | refine gT ?_ | refine gF ?_ | refine brT ?_ | refine brF ?_)
    refine And.intro rfl (And.intro (mrows_ok a) (And.intro (show (0 + (a.map mrow).length) * 80 <= 140737488355328 by rw [mrow_len]; omega) (And.intro (show 0 + (a.map mrow).length <= maxLen by rw [mrow_len]; simp only [maxLen]; omega) ?_)))
    refine And.intro (show 0 + (a.map mrow).length = ([] ++ a.map mrow).length by simp) (And.intro (mrows_ok b) (And.intro (show (0 + (a.map mrow).length + (b.map mrow).length) * 80 <= 140737488355328 by rw [mrow_len,mrow_len]; omega) (And.intro (show 0 + (a.map mrow).length + (b.map mrow).length <= maxLen by rw [mrow_len,mrow_len]; simp only [maxLen]; omega) ?_)))
    refine targ_ok3 (a1:=(x0 :: xs)) (a2:=(y :: ys)) h20 mm (by omega) hw 0 rfl (by rw [mrow_len,mrow_len]; omega) (show some (Blk.arr (72,6) ([] ++ a.map mrow ++ b.map mrow) true) = _ by rw [List.map_append]; rfl) rfl rfl ?_
    repeat (first | refine gT ?_ | refine gF ?_ | refine brT ?_ | refine brF ?_)
    refine Hn_by (And.intro (show 0 + (x0 :: xs).length <= (irows .i64 (natI (x0 :: xs))).length by rw [irows_len,natI_len]; omega) (Exists.intro _ (And.intro f1 ?_)))
    first | refine Exists.intro _ (And.intro (o) ?_) | refine Hn_by (Exists.intro _ (And.intro (o) ?_))
    refine Hn_by (And.intro (show 0 + (y :: ys).length <= (irows .i64 (natI (y :: ys))).length by rw [irows_len,natI_len]; omega) (Exists.intro _ (And.intro f2 ?_)))
    refine Hn_by (And.intro (show 0 + (y :: ys).length <= (irows .i64 (natI (y :: ys))).length by rw [irows_len,natI_len]; omega) (Exists.intro _ (And.intro f3 ?_)))
    first | refine Exists.intro _ (And.intro (o) ?_) | refine Hn_by (Exists.intro _ (And.intro (o) ?_))
    exact And.intro (Or.inr rfl) (And.intro (And.intro rfl (Nat.le_refl 5)) rfl)
end Ab
end
