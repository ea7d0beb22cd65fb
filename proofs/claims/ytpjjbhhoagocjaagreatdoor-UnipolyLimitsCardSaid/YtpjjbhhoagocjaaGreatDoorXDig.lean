namespace Dg
abbrev B : Int:=4294967296
def D (l : List Int) : Prop:=∀ x ∈ l,0 <= x∧x < B
def val : List Int -> Int
 | [] => 0
 | x :: l => x + B * val l
def trim : List Int -> List Int
 | [] => []
 | x :: l => match trim l with | [] => if x = 0 then [] else [x] | t => x :: t
def Canon (l : List Int) : Prop:=∀ x,l.getLast? = some x -> x ≠ 0
theorem D.cons {x : Int} {l : List Int} : D (x :: l) ↔ (0 <= x∧x < B)∧D l:=by simp [D]
theorem D.nil : D []:=by simp [D]
theorem D.app {l m : List Int} : D (l ++ m) ↔ D l∧D m:=by
 simp only [D,List.mem_append]
 exact ⟨fun h => ⟨fun x hx => h x (.inl hx),fun x hx => h x (.inr hx)⟩,fun h x hx => hx.elim (h.1 x) (h.2 x)⟩
theorem D.take {l : List Int} (h : D l) (n : Nat) : D (l.take n):=fun x hx => h x (List.mem_of_mem_take hx)
theorem D.drop {l : List Int} (h : D l) (n : Nat) : D (l.drop n):=fun x hx => h x (List.mem_of_mem_drop hx)
theorem D.at {l : List Int} (h : D l) {i : Nat} {x : Int} (hx : l[i]? = some x) : 0 <= x∧x < B:=h x (List.mem_of_getElem? hx)
theorem D.set {l : List Int} (h : D l) {i : Nat} {x : Int} (h0 : 0 <= x) (h1 : x < B) : D (l.set i x):=fun y hy => by
 rcases List.mem_or_eq_of_mem_set hy with hy | rfl
 ·exact h y hy
 ·exact ⟨h0,h1⟩
theorem D.rep (n : Nat) : D (List.replicate n 0):=fun x hx => by
 rw [List.eq_of_mem_replicate hx]; decide
theorem val_nonneg : ∀ {l : List Int},D l -> 0 <= val l
 | [],_ => by simp [val]
 | x :: l,h => by
   have h:=D.cons.1 h
   have:=val_nonneg h.2
   simp only [val,B]; omega
theorem val_lt : ∀ {l : List Int},D l -> val l < B ^ l.length
 | [],_ => by simp [val]
 | x :: l,h => by
   have h:=D.cons.1 h
   have ih:=val_lt h.2
   have h1 : B * val l + B <= B * B ^ l.length:=by
    have : B * (val l + 1) <= B * B ^ l.length:=Int.mul_le_mul_of_nonneg_left (by omega) (by decide)
    rw [Int.mul_add,Int.mul_one] at this; exact this
   rw [List.length_cons,Int.pow_succ,Int.mul_comm (B ^ l.length),val]
   omega
theorem val_app : ∀ (l m : List Int),val (l ++ m) = val l + B ^ l.length * val m
 | [],m => by simp [val]
 | x :: l,m => by
   rw [List.cons_append,val,val_app l m,val,List.length_cons,Int.pow_succ,Int.mul_add]
   grind
theorem val_rep : ∀ n,val (List.replicate n 0) = 0
 | 0 => rfl
 | n + 1 => by rw [List.replicate_succ,val,val_rep n]; decide
theorem trim_val : ∀ l,val (trim l) = val l
 | [] => rfl
 | x :: l => by
   have ih:=trim_val l
   rw [trim]
   cases ht : trim l with
   | nil =>
    rw [ht] at ih
    simp only [val] at ih
    by_cases h : x = 0
    ·simp only [h,if_pos,val,<- ih]; rfl
    ·simp only [if_neg h,val,<- ih]
   | cons y t => rw [ht] at ih; simp only [val] at ih ⊢; rw [ih]
theorem trim_D : ∀ {l},D l -> D (trim l)
 | [],h => h
 | x :: l,h => by
   have h:=D.cons.1 h
   have ih:=trim_D h.2
   rw [trim]
   cases ht : trim l with
   | nil => simp only; split; exact D.nil; exact D.cons.2 ⟨h.1,D.nil⟩
   | cons y t => rw [ht] at ih; exact D.cons.2 ⟨h.1,ih⟩
theorem trim_canon : ∀ l,Canon (trim l)
 | [] => by simp [trim,Canon]
 | x :: l => by
   have ih:=trim_canon l
   rw [trim]
   cases ht : trim l with
   | nil =>
    simp only
    split
    ·simp [Canon]
    ·rename_i h; intro y hy; simp at hy; subst hy; exact h
   | cons z t =>
    rw [ht] at ih
    intro y hy
    simp only at hy
    rw [List.getLast?_cons_cons] at hy
    exact ih y hy
theorem trim_of_canon : ∀ {l},Canon l -> trim l = l
 | [],_ => rfl
 | [x],h => by
   have:=h x (by simp)
   rw [trim,trim]; simp [this]
 | x :: y :: l,h => by
   have ih:=trim_of_canon (l:=y :: l) (fun z hz => h z (by rw [List.getLast?_cons_cons]; exact hz))
   rw [trim,ih]
theorem val_pos : ∀ {l : List Int},D l -> Canon l -> l ≠ [] -> 0 < val l
| [],_,_,h => absurd rfl h
| [x],hd,hc,_ => by
  have h1:=(D.cons.1 hd).1
  have h2:=hc x (by simp)
  simp only [val]; omega
| x :: y :: l,hd,hc,_ => by
  have h:=D.cons.1 hd
  have ih:=val_pos (l:=y :: l) h.2 (fun z hz => hc z (by rw [List.getLast?_cons_cons]; exact hz)) (by simp)
  rw [val]; simp only [B] at *; omega
theorem val_inj : ∀ {l m : List Int},D l -> D m -> Canon l -> Canon m -> val l = val m -> l = m
 | [],[],_,_,_,_,_ => rfl
 | [],y :: m,_,hm,_,cm,h => by
   exfalso
   exact absurd (val_pos hm cm (by simp)) (by rw [<- h]; simp [val])
 | x :: l,[],hl,_,cl,_,h => by
   exfalso
   exact absurd (val_pos hl cl (by simp)) (by rw [h]; simp [val])
 | x :: l,y :: m,hl,hm,cl,cm,h => by
   have hl:=D.cons.1 hl; have hm:=D.cons.1 hm
   simp only [val,B] at h
   have e1 : x = y:=by have:=hl.1; have:=hm.1; simp only [B] at *; omega
   have e2 : val l = val m:=by subst e1; omega
   subst e1
   have cl' : Canon l:=fun z hz => cl z (by cases l with | nil => simp at hz | cons a l => rw [List.getLast?_cons_cons]; exact hz)
   have cm' : Canon m:=fun z hz => cm z (by cases m with | nil => simp at hz | cons a l => rw [List.getLast?_cons_cons]; exact hz)
   rw [val_inj hl.2 hm.2 cl' cm' e2]
theorem mag_lt {n : Int} (_h : ¬ n <= 0) : (n / B).toNat < n.toNat:=by simp only [B]; omega
def mag (n : Int) : List Int:=if _h : n <= 0 then [] else n % B :: mag (n / B)
termination_by n.toNat
decreasing_by exact mag_lt _h
theorem mag_zero {n : Int} (h : n <= 0) : mag n = []:=by rw [mag,dif_pos h]
theorem mag_D : ∀ (k : Nat) (n : Int),n.toNat = k -> D (mag n):=by
 intro k
 induction k using Nat.strongRecOn with
 | ind k ih =>
  intro n hn
  rw [mag]
  split
  ·exact D.nil
  ·rename_i h
   exact D.cons.2 ⟨by simp only [B]; omega,ih _ (by have:=mag_lt h; omega) _ rfl⟩
theorem mag_val : ∀ (k : Nat) (n : Int),n.toNat = k -> 0 <= n -> val (mag n) = n:=by
 intro k
 induction k using Nat.strongRecOn with
 | ind k ih =>
  intro n hn h0
  rw [mag]
  split
  ·simp only [val]; omega
  ·rename_i h
   rw [val,ih _ (by have:=mag_lt h; omega) _ rfl (by simp only [B]; omega)]
   simp only [B]; omega
theorem mag_canon : ∀ (k : Nat) (n : Int),n.toNat = k -> Canon (mag n):=by
 intro k
 induction k using Nat.strongRecOn with
 | ind k ih =>
  intro n hn
  rw [mag]
  split
  ·simp [Canon]
  ·rename_i h
   have ih:=ih _ (by have:=mag_lt h; omega) (n / B) rfl
   intro x hx
   cases hm : mag (n / B) with
   | nil =>
    rw [hm] at hx
    simp at hx
    have : ¬ 0 < n / B:=fun hp => by rw [mag,dif_neg (by omega)] at hm; cases hm
    simp only [B] at *; omega
   | cons y t =>
    rw [hm] at hx ih
    rw [List.getLast?_cons_cons] at hx
    exact ih x hx
theorem magD (n : Int) : D (mag n):=mag_D _ n rfl
theorem magV {n : Int} (h : 0 <= n) : val (mag n) = n:=mag_val _ n rfl h
theorem magC (n : Int) : Canon (mag n):=mag_canon _ n rfl
theorem trim_mag {l : List Int} (h : D l) : trim l = mag (val l):=by
 refine val_inj (trim_D h) (magD _) (trim_canon l) (magC _) ?_
 rw [trim_val,magV (val_nonneg h)]
theorem mag_of {l : List Int} (h : D l) (hc : Canon l) : l = mag (val l):=by rw [<- trim_mag h,trim_of_canon hc]
theorem mag_len_lt {n : Int} {k : Nat} (h0 : 0 <= n) (h : n < B ^ k) : (mag n).length <= k:=by
 refine Classical.byContradiction fun hc => ?_
 have hd:=magD n
 have hl : mag n ≠ []:=fun e => by rw [e] at hc; simp at hc
 obtain ⟨m,x,e⟩ : ∃ m x,mag n = m ++ [x]:=⟨(mag n).dropLast,(mag n).getLast hl,(List.dropLast_concat_getLast hl).symm⟩
 have hv:=magV h0
 rw [e] at hd hc hv
 have h1:=D.app.1 hd
 have hx:=(D.cons.1 h1.2).1
 have hx0 : x ≠ 0:=magC n x (by rw [e]; simp)
 rw [val_app] at hv
 simp only [val,Int.mul_zero,Int.add_zero] at hv
 have h2:=val_nonneg h1.1
 have h3 : B ^ k <= B ^ m.length:=by
  have : k <= m.length:=by simp at hc; omega
  have hp : B ^ m.length = B ^ k * B ^ (m.length - k):=by rw [<- Int.pow_add]; congr 1; omega
  have h5 : ∀ j : Nat,(1 : Int) <= B ^ j:=fun j => by have : 0 < B ^ j:=Int.pow_pos (by decide); omega
  have:=Int.mul_le_mul_of_nonneg_left (h5 (m.length - k)) (show 0 <= B ^ k by have:=h5 k; omega)
  omega
 have h4 : B ^ m.length * 1 <= B ^ m.length * x:=Int.mul_le_mul_of_nonneg_left (by omega) (by
  have : 0 <= B ^ m.length:=Int.pow_nonneg (by decide)
  exact this)
 omega
end Dg
namespace Dg
theorem pow_pos (j : Nat) : 0 < B ^ j:=Int.pow_pos (by decide)
theorem split_at {l : List Int} {i : Nat} {x : Int} (h : l[i]? = some x) : l = l.take i ++ x :: l.drop (i + 1):=by
 have hlt : i < l.length:=(List.getElem?_eq_some_iff.1 h).1
 have e:=(List.getElem?_eq_some_iff.1 h).2
 rw [<- e,List.getElem_cons_drop]; exact (List.take_append_drop i l).symm
theorem val_split {l : List Int} {i : Nat} {x : Int} (h : l[i]? = some x) : val l = val (l.take i) + B ^ i * (x + B * val (l.drop (i + 1))):=by
 have hlt : i < l.length:=(List.getElem?_eq_some_iff.1 h).1
 conv => lhs; rw [split_at h]
 rw [val_app,val,List.length_take,Nat.min_eq_left (by omega)]
theorem val_take_lt {l : List Int} (h : D l) (i : Nat) : 0 <= val (l.take i)∧val (l.take i) < B ^ i:=by
 refine ⟨val_nonneg (h.take i),Int.lt_of_lt_of_le (val_lt (h.take i)) ?_⟩
 have hp : B ^ i = B ^ (l.take i).length * B ^ (i - (l.take i).length):=by rw [<- Int.pow_add]; congr 1; rw [List.length_take]; omega
 have:=Int.mul_le_mul_of_nonneg_left (show 1 <= B ^ (i - (l.take i).length) by have:=pow_pos (i - (l.take i).length); omega) (Int.le_of_lt (pow_pos (l.take i).length))
 omega
theorem lt_at {a b : List Int} (ha : D a) (hb : D b) {i : Nat} {x y : Int} (hx : a[i]? = some x) (hy : b[i]? = some y) (hd : a.drop (i + 1) = b.drop (i + 1)) (h : x < y) : val a < val b:=by
 rw [val_split hx,val_split hy,hd]
 have h1:=val_take_lt ha i; have h2:=val_take_lt hb i
 generalize B * val (b.drop (i + 1)) = R
 generalize B ^ i = P at *
 have h3 : P * (x + R) + P <= P * (y + R):=by
  have : P * (x + R + 1) <= P * (y + R):=Int.mul_le_mul_of_nonneg_left (by omega) (by omega)
  rw [Int.mul_add P (x + R),Int.mul_one] at this; exact this
 omega
theorem canon_ge {l : List Int} (h : D l) (hc : Canon l) (hn : l ≠ []) : B ^ (l.length - 1) <= val l:=by
 obtain ⟨m,x,rfl⟩ : ∃ m x,l = m ++ [x]:=⟨l.dropLast,l.getLast hn,(List.dropLast_concat_getLast hn).symm⟩
 have h1:=D.app.1 h
 have hx:=(D.cons.1 h1.2).1
 have hx0 : x ≠ 0:=hc x (by simp)
 rw [val_app]
 simp only [val,Int.mul_zero,Int.add_zero,List.length_append,List.length_singleton,Nat.add_sub_cancel]
 have h2:=val_nonneg h1.1
 have h4 : B ^ m.length * 1 <= B ^ m.length * x:=Int.mul_le_mul_of_nonneg_left (by omega) (Int.le_of_lt (pow_pos _))
 omega
theorem lt_len {a b : List Int} (ha : D a) (hb : D b) (cb : Canon b) (h : a.length < b.length) : val a < val b:=by
 have h1:=val_lt ha
 have h2:=canon_ge hb cb (fun e => by subst e; simp at h)
 have hp : B ^ (b.length - 1) = B ^ a.length * B ^ (b.length - 1 - a.length):=by rw [<- Int.pow_add]; congr 1; omega
 have:=Int.mul_le_mul_of_nonneg_left (show 1 <= B ^ (b.length - 1 - a.length) by have:=pow_pos (b.length - 1 - a.length); omega) (Int.le_of_lt (pow_pos a.length))
 omega
def cmp (a b : Int) : Int:=if a < b then -1 else if b < a then 1 else 0
end Dg
namespace Dg
theorem take_succ (l : List Int) (i : Nat) : val (l.take (i + 1)) = val (l.take i) + B ^ i * l.getD i 0:=by
 rw [List.take_add_one]
 cases h : l[i]? with
 | none =>
  have hlt : l.length <= i:=List.getElem?_eq_none_iff.1 h
  simp [List.getD_eq_getElem?_getD,h]
 | some x =>
  have hlt : i < l.length:=(List.getElem?_eq_some_iff.1 h).1
  rw [Option.toList,val_app,List.length_take,Nat.min_eq_left (by omega),val,val,List.getD_eq_getElem?_getD,h]
  simp
theorem set_take (l : List Int) (i : Nat) (x : Int) (h : i < l.length) : val ((l.set i x).take (i + 1)) = val (l.take i) + B ^ i * x:=by
 rw [take_succ,List.take_set_of_le (Nat.le_refl i),List.getD_eq_getElem?_getD,List.getElem?_set_self h]; rfl
theorem getD_bd {l : List Int} (h : D l) (i : Nat) : 0 <= l.getD i 0∧l.getD i 0 < B:=by
 rw [List.getD_eq_getElem?_getD]
 cases hx : l[i]? with
 | none => simp; decide
 | some x => exact h.at hx
theorem sum_step {P X Y O c t a b : Int} (h : O + P * c = X + Y) (ht : t = a + b + c) : (O + P * (t % B)) + (P * B) * (t / B) = (X + P * a) + (Y + P * b):=by
 have e : t % B + B * (t / B) = t:=Int.emod_add_mul_ediv t B
 have e2 : P * (t % B) + P * B * (t / B) = P * t:=by rw [Int.mul_assoc,<- Int.mul_add,e]
 rw [ht] at e2 ⊢
 grind
end Dg
namespace Dg
theorem val_set : ∀ (l : List Int) (j : Nat) (y : Int),j < l.length -> val (l.set j y) = val l + B ^ j * (y - l.getD j 0)
 | [],_,_,h => by simp at h
 | x :: l,0,y,_ => by simp only [List.set_cons_zero,val,Int.pow_zero,List.getD_cons_zero]; omega
 | x :: l,j + 1,y,h => by
   have ih:=val_set l j y (by simpa using h)
   rw [List.set_cons_succ,val,val,ih,List.getD_cons_succ,Int.pow_succ]
   grind
theorem mul_bd {a b x c : Int} (ha : 0 <= a∧a < B) (hb : 0 <= b∧b < B) (hx : 0 <= x∧x < B) (hc : 0 <= c∧c < B) : 0 <= a * b + x + c∧a * b + x + c < 18446744073709551616∧0 <= a * b∧a * b <= 18446744065119617025:=by
 have h1 : a * b <= 4294967295 * 4294967295:=Int.mul_le_mul (by have:=ha.2; simp only [B] at this; omega) (by have:=hb.2; simp only [B] at this; omega) hb.1 (by decide)
 have h2 : 0 <= a * b:=Int.mul_nonneg ha.1 hb.1
 simp only [B] at *
 omega
end Dg
