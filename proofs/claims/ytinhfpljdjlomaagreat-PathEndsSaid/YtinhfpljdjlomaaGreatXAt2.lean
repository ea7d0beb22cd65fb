import Derived.Test.YtinhfpljdjlomaaGreatXAt
import Derived.Test.YtinhfpljdjlomaaGreatXPath3
open Go Go.Proofs
namespace Ab
set_option maxRecDepth 100000
set_option maxHeartbeats 1000000
def tmB (z : Int) : Bool:=and (decide (z ≥ -1048576)) (decide (z <= 1048576))
def timeB (re im : Int) : Bool:=and (tmB re) (tmB im)
theorem timeB_iff {re im : Int} : timeB re im = true ↔ (-1048576 <= re ∧ re <= 1048576) ∧ (-1048576 <= im ∧ im <= 1048576):=by
 unfold timeB tmB
 simp only [Bool.and_eq_true,decide_eq_true_eq]
abbrev tmv (re im : Int) : AV:=.agg [.int .i64 re,.int .i64 im]
theorem bounded_spec (re im : Int) : Spec Tryz.prog [] 44 [tmv re im] (.bool (timeB re im)):=by
  have h : timeB re im = and (decide (re ≥ -1048576)) (and (decide (re <= 1048576)) (and (decide (im ≥ -1048576)) (decide (im <= 1048576)))):=by
   unfold timeB tmB
   cases decide (re ≥ -1048576) <;> cases decide (re <= 1048576) <;> rfl
  rw [h]
  refine spec_fn T_ok mixed_ok 0 Tryz.func44 fn_ok44 (by kernel_rfl) ?_
  refine br (fun h1 => ?_) (fun h1 => ?_)
  ·rw [decide_eq_true (show re ≥ -1048576 from h1)]
   repeat (first | refine gT ?_ | refine gF ?_ | refine brT ?_ | refine brF ?_)
   refine br (fun h2 => ?_) (fun h2 => ?_)
   ·rw [decide_eq_true (show re <= 1048576 from h2)]
    repeat (first | refine gT ?_ | refine gF ?_ | refine brT ?_ | refine brF ?_)
    refine br (fun h3 => ?_) (fun h3 => ?_)
    ·rw [decide_eq_true (show im ≥ -1048576 from h3)]
     repeat (first | refine gT ?_ | refine gF ?_ | refine brT ?_ | refine brF ?_)
     exact And.intro (Or.inr rfl) rfl
    ·rw [decide_eq_false (show ¬ im ≥ -1048576 from h3)]
     repeat (first | refine gT ?_ | refine gF ?_ | refine brT ?_ | refine brF ?_)
     exact And.intro (Or.inr rfl) rfl
   ·rw [decide_eq_false (show ¬ re <= 1048576 from h2)]
    repeat (first | refine gT ?_ | refine gF ?_ | refine brT ?_ | refine brF ?_)
    exact And.intro (Or.inr rfl) rfl
  ·rw [decide_eq_false (show ¬ re ≥ -1048576 from h1)]
   repeat (first | refine gT ?_ | refine gF ?_ | refine brT ?_ | refine brF ?_)
   exact And.intro (Or.inr rfl) rfl
theorem time_spec (re im : Int) : Spec Tryz.prog [] 15 [tmv re im] (.bool (timeB re im)):=by
  have h : timeB re im = and (decide (re ≥ -1048576)) (and (decide (re <= 1048576)) (and (decide (im ≥ -1048576)) (decide (im <= 1048576)))):=by
   unfold timeB tmB
   cases decide (re ≥ -1048576) <;> cases decide (re <= 1048576) <;> rfl
  rw [h]
  refine spec_fn T_ok mixed_ok 0 Tryz.func15 fn_ok15 (by kernel_rfl) ?_
  refine br (fun h1 => ?_) (fun h1 => ?_)
  ·rw [decide_eq_true (show re ≥ -1048576 from h1)]
   repeat (first | refine gT ?_ | refine gF ?_ | refine brT ?_ | refine brF ?_)
   refine br (fun h2 => ?_) (fun h2 => ?_)
   ·rw [decide_eq_true (show re <= 1048576 from h2)]
    repeat (first | refine gT ?_ | refine gF ?_ | refine brT ?_ | refine brF ?_)
    refine br (fun h3 => ?_) (fun h3 => ?_)
    ·rw [decide_eq_true (show im ≥ -1048576 from h3)]
     repeat (first | refine gT ?_ | refine gF ?_ | refine brT ?_ | refine brF ?_)
     exact And.intro (Or.inr rfl) rfl
    ·rw [decide_eq_false (show ¬ im ≥ -1048576 from h3)]
     repeat (first | refine gT ?_ | refine gF ?_ | refine brT ?_ | refine brF ?_)
     exact And.intro (Or.inr rfl) rfl
   ·rw [decide_eq_false (show ¬ re <= 1048576 from h2)]
    repeat (first | refine gT ?_ | refine gF ?_ | refine brT ?_ | refine brF ?_)
    exact And.intro (Or.inr rfl) rfl
  ·rw [decide_eq_false (show ¬ re ≥ -1048576 from h1)]
   repeat (first | refine gT ?_ | refine gF ?_ | refine brT ?_ | refine brF ?_)
   exact And.intro (Or.inr rfl) rfl
def qrow (a : List (Int × Int)) : Ps:=a.map qc
def Qvs (a : List (Int × Int)) : Prop:=∀ x ∈ a,Qv x
theorem okp_qrow {p : Ps} (h : Okp p) : ∃ a,p = qrow a ∧ Qvs a:=by
 induction p with
 | nil => exact ⟨[],rfl,fun _ h => by cases h⟩
 | cons r p ih =>
  obtain ⟨a,rfl,ha⟩:=ih fun q hq => h q (by simp [hq])
  obtain ⟨n,d,rfl,hq⟩:=h r (by simp)
  refine ⟨(n,d) :: a,rfl,fun x hx => ?_⟩
  rcases List.mem_cons.1 hx with rfl | hx
  ·exact hq
  ·exact ha x hx
theorem qrow_len (a : List (Int × Int)) : (qrow a).length = a.length:=by simp [qrow]
theorem qrow_at {a : List (Int × Int)} {i : Nat} {x : Int × Int} (h : a[i]? = some x) : (qrow a)[i]? = some (qc x):=by simp [qrow,h]
theorem qrow_ok {a : List (Int × Int)} (h : Qvs a) : Okp (qrow a):=fun r hr => by
 obtain ⟨x,hx,rfl⟩:=List.mem_map.1 hr
 exact ⟨x.1,x.2,rfl,h x hx⟩
theorem qrow_qd (a : List (Int × Int)) : QDs (qrow a):=fun r hr => by
 obtain ⟨x,_,rfl⟩:=List.mem_map.1 hr
 exact ⟨_,_,_,_,rfl,Dg.magD _,Dg.magD _⟩
theorem qrow_all {a : List (Int × Int)} (h : Qvs a) : (qrow a).all qB = true:=List.all_eq_true.2 fun r hr => qB_true (qrow_ok h r hr)
abbrev Bx.cs (b : Bx) : List AV:=[.int .i64 b.a,.int .i64 b.b,.int .i64 b.c,.int .i64 b.d,.bool b.w]
abbrev zbx : List AV:=[.int .i64 0,.int .i64 0,.int .i64 0,.int .i64 0,.bool false]
def brow (l : List Bx) : List (List AV):=l.map Bx.cs
noncomputable def atO : List (Int × Int) -> List (Int × Int) -> Int -> Int -> Option (List Bx)
 | x :: a,y :: b,re,im => (ptO x y re im).bind fun B => (atO a b re im).map fun l => B :: l
 | _,_,_,_ => some []
def Sofar (a b : List (Int × Int)) (re im : Int) (l : List Bx) : Prop:=∀ (i : Nat) (B : Bx),l[i]? = some B -> ∃ x y,a[i]? = some x ∧ b[i]? = some y ∧ ptO x y re im = some B
theorem Sofar.snoc {a b : List (Int × Int)} {re im : Int} {l : List Bx} {x y : Int × Int} {B : Bx} (h : Sofar a b re im l) (hx : a[l.length]? = some x) (hy : b[l.length]? = some y) (hB : ptO x y re im = some B) : Sofar a b re im (l ++ [B]):=by
 intro i C hC
 by_cases e : i < l.length
 ·rw [List.getElem?_append_left e] at hC; exact h i C hC
 ·rw [List.getElem?_append_right (by omega)] at hC
  have e2 : i - l.length = 0:=by
   by_cases g : i - l.length = 0
   ·exact g
   ·rw [List.getElem?_eq_none (by simp; omega)] at hC; cases hC
  rw [e2] at hC
  cases hC
  have : i = l.length:=by omega
  subst this
  exact ⟨x,y,hx,hy,hB⟩
theorem atO_some {re im : Int} : ∀ {l : List Bx} {a b : List (Int × Int)},a.length = l.length -> b.length = l.length -> Sofar a b re im l -> atO a b re im = some l:=by
 intro l
 induction l with
 | nil =>
  intro a b h1 h2 _
  rw [List.length_eq_zero_iff.1 h1]
  rfl
 | cons B l ih =>
  intro a b h1 h2 h
  match a,b,h1,h2 with
  | x :: a,y :: b,h1,h2 =>
   obtain ⟨x',y',e1,e2,e3⟩:=h 0 B rfl
   cases e1; cases e2
   have:=ih (a:=a) (b:=b) (by simpa using h1) (by simpa using h2) (fun i C hC => h (i + 1) C (by simpa using hC))
   unfold atO
   rw [e3,Option.bind_some,this]
   rfl
theorem atO_none {re im : Int} : ∀ {a b : List (Int × Int)} {i : Nat} {x y : Int × Int},a[i]? = some x -> b[i]? = some y -> ptO x y re im = none -> atO a b re im = none
 | x :: a,y :: b,0,_,_,h1,h2,h => by
  cases h1; cases h2
  unfold atO
  rw [h]
  rfl
 | x :: a,y :: b,i + 1,_,_,h1,h2,h => by
  have:=atO_none (a:=a) (b:=b) (i:=i) (by simpa using h1) (by simpa using h2) h
  unfold atO
  rw [this]
  cases ptO x y re im <;> rfl
theorem atO_len {re im : Int} : ∀ {a b : List (Int × Int)} {l : List Bx},a.length = b.length -> atO a b re im = some l -> l.length = a.length
 | [],[],l,_,h => by cases h; rfl
 | x :: a,y :: b,l,hl,h => by
  unfold atO at h
  cases e : ptO x y re im with
  | none => rw [e] at h; cases h
  | some B =>
   rw [e,Option.bind_some] at h
   cases e2 : atO a b re im with
   | none => rw [e2] at h; cases h
   | some l' =>
    rw [e2] at h
    cases h
    rw [List.length_cons,List.length_cons,atO_len (by simpa using hl) e2]
def atAV : Option (List Bx) -> AV
 | some l => .tup [.sl (brow l),.int .i64 0]
 | none => .tup [.sl [],.int .i64 2]
end Ab
