namespace Ab
def psum : Nat -> (Nat -> Rat) -> Rat
 | 0,_ => 0
 | n + 1,f => psum n f + f n
theorem psum_zero {f : Nat -> Rat} {n : Nat} (h : ∀ i,i < n -> f i = 0) : psum n f = 0:=by
 induction n with
 | zero => rfl
 | succ n ih => unfold psum; rw [ih fun i hi => h i (by omega),h n (by omega),Rat.add_zero]
theorem psum_more {f : Nat -> Rat} {n m : Nat} (h : n <= m) (hz : ∀ i,n <= i -> i < m -> f i = 0) : psum m f = psum n f:=by
 induction m with
 | zero => rw [show n = 0 by omega]
 | succ m ih =>
  by_cases e : n = m + 1
  ·rw [e]
  ·show psum m f + f m = _
   rw [ih (by omega) fun i h1 h2 => hz i h1 (by omega),hz m (by omega) (by omega),Rat.add_zero]
abbrev cf (p : List Rat) (i : Nat) : Rat:=p.getD i 0
def conv (p q : List Rat) (k : Nat) : Rat:=psum (k + 1) fun j => cf p j * cf q (k - j)
def mulP (p q : List Rat) : List Rat:=if p.length = 0 ∨ q.length = 0 then [] else (List.range (p.length + q.length - 1)).map (conv p q)
theorem cf_out {p : List Rat} {i : Nat} (h : p.length <= i) : cf p i = 0:=by simp [cf,List.getD,List.getElem?_eq_none h]
def divF (p q : List Rat) (d m : Nat) : Nat -> Nat -> Rat
 | 0,j => cf p j
 | t + 1,j => if m - 1 - t <= j∧j < m - 1 - t + d then divF p q d m t j - divF p q d m t (m - 1 - t + d) / cf q d * cf q (j - (m - 1 - t)) else divF p q d m t j
def divC (p q : List Rat) (d m k : Nat) : Rat:=divF p q d m (m - 1 - k) (k + d) / cf q d
def divQ (p q : List Rat) : List Rat:=(List.range (p.length - (q.length - 1))).map (divC p q (q.length - 1) (p.length - (q.length - 1)))
def divR0 (p q : List Rat) : List Rat:=(List.range (q.length - 1)).map (divF p q (q.length - 1) (p.length - (q.length - 1)) (p.length - (q.length - 1)))
def monP (p : List Rat) : List Rat:=p.map fun c => c / cf p (p.length - 1)
end Ab
