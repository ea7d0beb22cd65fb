import Derived.Test.YtinhfpljdjlomaaGreatXGk
import Derived.Test.YtinhfpljdjlomaaGreatXCorners
import Derived.Test.YtinhfpljdjlomaaGreatXWorks
import Derived.Test.YtinhfpljdjlomaaGreatXShapeL
open Go Go.Proofs
namespace Ab
set_option maxRecDepth 100000
set_option maxHeartbeats 1000000
theorem set_aftL {p : Ps} {i : Nat} {r : List AV} : ∀ {l : List (Nat × Mv)},(∀ x ∈ l,x.1 ≠ i) -> aftL (p.set i r) l = (aftL p l).set i r
 | [],_ => rfl
 | x :: l,h => by
  show aftL ((p.set i r).set x.1 x.2.to) l = (aftL (p.set x.1 x.2.to) l).set i r
  rw [List.set_comm _ _ (Ne.symm (h x (by simp)))]
  exact set_aftL fun y hy => h y (by simp [hy])
theorem aftL_comm {p : Ps} {m : List (Nat × Mv)} : ∀ {l : List (Nat × Mv)},(∀ x ∈ l,∀ y ∈ m,x.1 ≠ y.1) -> aftL (aftL p m) l = aftL (aftL p l) m
 | [],_ => rfl
 | x :: l,h => by
  show aftL ((aftL p m).set x.1 x.2.to) l = aftL (aftL (p.set x.1 x.2.to) l) m
  rw [<- set_aftL fun y hy => Ne.symm (h x (by simp) y hy)]
  exact aftL_comm fun y hy z hz => h y (by simp [hy]) z hz
theorem zip_fst {t : List Nat} {a : List Mv} : ∀ x ∈ t.zip a,x.1 ∈ t:=fun x hx => (List.of_mem_zip (a:=x.1) (b:=x.2) hx).1
theorem lop_none {l : List Sp} {p : Ps} {a b : List Mv} (hc : chkS l = 0) (hb : (p.all qB && ((p.length : Int) == ((insP 0 l).length : Int))) = true) (h : tgP (insP 0 l) a = none ∨ tgP (insP 0 l) b = none ∨ tgP (insP 0 l) (a ++ b) = none) : lopF l p a b = .tup [.sl [],.int .i64 170]:=by
 unfold lopF
 rw [if_pos hc,hb]
 rcases h with h | h | h
 ·rw [h]
 ·rw [h]
  cases tgP (insP 0 l) a <;> rfl
 ·rw [h]
  cases tgP (insP 0 l) a <;> cases tgP (insP 0 l) b <;> rfl
theorem lop_some {l : List Sp} {p : Ps} {a b : List Mv} {t u w : List Nat} (hc : chkS l = 0) (hb : (p.all qB && ((p.length : Int) == ((insP 0 l).length : Int))) = true) (h1 : tgP (insP 0 l) a = some t) (h2 : tgP (insP 0 l) b = some u) (h3 : tgP (insP 0 l) (a ++ b) = some w) :
  lopF l p a b = .tup [pthv [p,aftL p (t.zip a),aftL (aftL p (t.zip a)) (u.zip b),aftL p (u.zip b),p],.int .i64 0]:=by
 unfold lopF
 rw [if_pos hc,hb,h1,h2,h3]
theorem mov_some {l : List Sp} {p : Ps} {a : List Mv} {t : List Nat} (hc : chkS l = 0) (hb : (p.all qB && ((p.length : Int) == ((insP 0 l).length : Int))) = true) (h1 : tgP (insP 0 l) a = some t) : movF l p a = .tup [pthv [p,aftL p (t.zip a)],.int .i64 0]:=by
 unfold movF
 rw [if_pos hc,hb,h1]
theorem lop_both {l : List Sp} {p : Ps} {a b : List Mv} : (∃ e f : Int,e ≠ 0 ∧ f ≠ 0 ∧ lopF l p a b = .tup [.sl [],.int .i64 e] ∧ lopF l p b a = .tup [.sl [],.int .i64 f]) ∨
  ∃ t u,chkS l = 0 ∧ (p.all qB && ((p.length : Int) == ((insP 0 l).length : Int))) = true ∧ tgP (insP 0 l) a = some t ∧ tgP (insP 0 l) b = some u ∧ (∀ n ∈ u,n ∉ t) ∧
   lopF l p a b = .tup [pthv [p,aftL p (t.zip a),aftL (aftL p (t.zip a)) (u.zip b),aftL p (u.zip b),p],.int .i64 0] ∧
   lopF l p b a = .tup [pthv [p,aftL p (u.zip b),aftL (aftL p (t.zip a)) (u.zip b),aftL p (t.zip a),p],.int .i64 0]:=by
 by_cases hc : chkS l = 0
 rotate_left
 ·exact .inl ⟨chkS l,chkS l,hc,hc,by unfold lopF; rw [if_neg hc],by unfold lopF; rw [if_neg hc]⟩
 cases hb : (p.all qB && ((p.length : Int) == ((insP 0 l).length : Int))) with
 | false => exact .inl ⟨1,1,by decide,by decide,by unfold lopF; rw [if_pos hc,hb],by unfold lopF; rw [if_pos hc,hb]⟩
 | true =>
 cases ht : tgP (insP 0 l) a with
 | none => exact .inl ⟨170,170,by decide,by decide,lop_none hc hb (.inl ht),lop_none hc hb (.inr (.inl ht))⟩
 | some t =>
 cases hu : tgP (insP 0 l) b with
 | none => exact .inl ⟨170,170,by decide,by decide,lop_none hc hb (.inr (.inl hu)),lop_none hc hb (.inl hu)⟩
 | some u =>
 obtain ⟨i1,i2⟩:=tgP_app ht hu
 obtain ⟨j1,j2⟩:=tgP_app hu ht
 by_cases he : ∃ n,n ∈ u ∧ n ∈ t
 ·exact .inl ⟨170,170,by decide,by decide,lop_none hc hb (.inr (.inr (i2 he))),lop_none hc hb (.inr (.inr (j2 (by obtain ⟨n,h1,h2⟩:=he; exact ⟨n,h2,h1⟩))))⟩
 ·have hd : ∀ n ∈ u,n ∉ t:=fun n h1 h2 => he ⟨n,h1,h2⟩
  refine .inr ⟨t,u,hc,rfl,rfl,rfl,hd,lop_some hc hb ht hu (i1 hd),?_⟩
  rw [lop_some hc hb hu ht (j1 fun n h1 h2 => hd n h2 h1),aftL_comm fun x hx y hy e => hd y.1 (zip_fst y hy) (by rw [<- e]; exact zip_fst x hx)]
end Ab
