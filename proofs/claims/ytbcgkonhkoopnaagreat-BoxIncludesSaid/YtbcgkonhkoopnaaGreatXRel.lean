import Derived.Test.YtbcgkonhkoopnaaGreatXAbs
import Derived.Laws.AppendOwn
import Derived.Laws.OwnMore
import Derived.Laws.IdiomCopy
import Derived.Laws.Small
/-!
What an abstract value says of a value in a world.
-/
namespace Ab
open Go

structure MB where
  b : Nat
  sz : Nat
  cap : Nat
  e : TypeId

abbrev Foot := Nat → Prop

section
variable (w : World) (F : Foot)
mutual
/-- data: what it reads lies in blocks of F -/
def RepD : AV → Value → Prop
  | .int k n, v => v = .int k n
  | .bool b, v => v = .bool b
  | .str s, v => v = .string s
  | .sl rows, v => ∃ a cap, v = .slice a rows.length cap ∧ rows.length ≤ cap ∧ cap ≤ maxLen ∧ (rows = [] ∨ ∃ b off sz, a = some ⟨b, off, none⟩ ∧ F b ∧ RepR b sz rows off)
  | .nil, v => v = .slice none 0 0
  | .agg cs, v => ∃ vs : List Value, v = .agg ⟨vs⟩ ∧ RepDL cs vs
  | .tup cs, v => ∃ vs : List Value, v = .tuple ⟨vs⟩ ∧ RepDL cs vs
  | _, _ => False
def RepDL : List AV → List Value → Prop
  | [], vs => vs = []
  | c :: cs, vs => ∃ v vs', vs = v :: vs' ∧ RepD c v ∧ RepDL cs vs'
/-- cells of a block -/
def RepC (b : Nat) : List AV → Nat → Prop
  | [], _ => True
  | c :: cs, o => (one c = true ∧ ∃ v, w.cell? ⟨b, o, none⟩ = some v ∧ RepD c v) ∧ RepC b cs (o + 1)
/-- rows of a block -/
def RepR (b sz : Nat) : List (List AV) → Nat → Prop
  | [], _ => True
  | r :: rs, o => r.length = sz ∧ RepC b r o ∧ RepR b sz rs (o + sz)
end
end

section
variable (w : World) (F : Foot) (M : Nat → Option MB)
mutual
def RepM : AV → Value → Prop
  | .int k n, v => v = .int k n
  | .bool b, v => v = .bool b
  | .str s, v => v = .string s
  | .sl rows, v => RepD w F (.sl rows) v
  | .nil, v => v = .slice none 0 0
  | .agg cs, v => ∃ vs : List Value, v = .agg ⟨vs⟩ ∧ RepML cs vs
  | .tup cs, v => ∃ vs : List Value, v = .tuple ⟨vs⟩ ∧ RepML cs vs
  | .bp k o, v => ∃ m, M k = some m ∧ v = .pointer (some ⟨m.b, o, none⟩)
  | .ap k r o, v => ∃ m, M k = some m ∧ v = .pointer (some ⟨m.b, r * m.sz + o, none⟩)
  | .er row o, v => ∃ b off, v = .pointer (some ⟨b, off + o, none⟩) ∧ F b ∧ RepC w F b row off
  | .ms k off n, v => ∃ m, M k = some m ∧ ((v = .slice (some ⟨m.b, off * m.sz, none⟩) n (m.cap - off) ∧ off + n ≤ m.cap) ∨ (n = 0 ∧ 0 < off ∧ ∃ a c, v = .slice a 0 c ∧ c ≤ maxLen))
  | .fn f cap, v => ∃ vs : List Value, v = .func (.func f) #[] ⟨vs⟩ ∧ RepML cap vs
  | .yl l, v => v = .func (.yield l) #[] #[]
  | .undef, _ => True
def RepML : List AV → List Value → Prop
  | [], vs => vs = []
  | c :: cs, vs => ∃ v vs', vs = v :: vs' ∧ RepM c v ∧ RepML cs vs'
end
/-- cells of a variable -/
def RepMC (b : Nat) : List AV → Nat → Prop
  | [], _ => True
  | c :: cs, o => (one c = true ∧ ∃ v, w.cell? ⟨b, o, none⟩ = some v ∧ RepM w F M c v) ∧ RepMC b cs (o + 1)
end

/-- one world, its data and its blocks, goes over into another -/
structure Tr (F : Foot) (M : Nat → Option MB) (w : World) (F' : Foot) (M' : Nat → Option MB) (w' : World) : Prop where
  foot : ∀ b, F b → F' b
  cell : ∀ b, F b → w'.heap[b]? = w.heap[b]?
  map : ∀ k m, M k = some m → M' k = some m
  size : w.heap.size ≤ w'.heap.size
  fnew : ∀ b, F' b → F b ∨ (∃ k m, M k = some m ∧ m.b = b) ∨ w.heap.size ≤ b
  mnew : ∀ k m, M' k = some m → (∃ k0 m0, M k0 = some m0 ∧ m0.b = m.b) ∨ w.heap.size ≤ m.b
  rest : ∀ b, b < w.heap.size → (∀ k m, M k = some m → m.b ≠ b) → w'.heap[b]? = w.heap[b]?

theorem Tr.refl (F : Foot) (M : Nat → Option MB) (w : World) : Tr F M w F M w := ⟨fun _ h => h, fun _ _ => rfl, fun _ _ h => h, Nat.le_refl _, fun _ h => .inl h, fun k m h => .inl ⟨k, m, h, rfl⟩, fun _ _ _ => rfl⟩
theorem Tr.trans {F M w F' M' w' F'' M'' w''} (h : Tr F M w F' M' w') (g : Tr F' M' w' F'' M'' w'') : Tr F M w F'' M'' w'' :=
  ⟨fun b hb => g.foot b (h.foot b hb), fun b hb => (g.cell b (h.foot b hb)).trans (h.cell b hb), fun k m hk => g.map k m (h.map k m hk), Nat.le_trans h.size g.size,
   fun b hb => by
    have hs := h.size
    rcases g.fnew b hb with h1 | ⟨k, m, h1, h2⟩ | h1
    · exact h.fnew b h1
    · rcases h.mnew k m h1 with ⟨k0, m0, h3, h4⟩ | h3
      · exact .inr (.inl ⟨k0, m0, h3, h4.trans h2⟩)
      · exact .inr (.inr (h2 ▸ h3))
    · exact .inr (.inr (by omega)),
   fun k m hk => by
    have hs := h.size
    rcases g.mnew k m hk with ⟨k0, m0, h1, h2⟩ | h1
    · rcases h.mnew k0 m0 h1 with ⟨k1, m1, h3, h4⟩ | h3
      · exact .inl ⟨k1, m1, h3, h4.trans h2⟩
      · exact .inr (h2 ▸ h3)
    · exact .inr (by omega),
   fun b hb hn => (g.rest b (Nat.lt_of_lt_of_le hb h.size) fun k m hk e => by
    rcases h.mnew k m hk with ⟨k0, m0, h1, h2⟩ | h1
    · exact hn k0 m0 h1 (h2.trans e)
    · omega).trans (h.rest b hb hn)⟩
/-- what is no block of data, nor a block of the call's own, stays so -/
theorem Tr.alien {F M w F' M' w'} (h : Tr F M w F' M' w') {b : Nat} (hb : b < w.heap.size) (hF : ¬ F b) (hM : ∀ k m, M k = some m → m.b ≠ b) : ¬ F' b ∧ (∀ k m, M' k = some m → m.b ≠ b) ∧ w'.heap[b]? = w.heap[b]? :=
  ⟨fun hf => by
    rcases h.fnew b hf with h1 | ⟨k, m, h1, h2⟩ | h1
    · exact hF h1
    · exact hM k m h1 h2
    · omega,
   fun k m hk e => by
    rcases h.mnew k m hk with ⟨k0, m0, h1, h2⟩ | h1
    · exact hM k0 m0 h1 (h2.trans e)
    · omega,
   h.rest b hb hM⟩

section mono
mutual
theorem RepD.mono {w w' : World} {F F' : Foot} (hF : ∀ b, F b → F' b) (hc : ∀ b, F b → w'.heap[b]? = w.heap[b]?) : ∀ (a : AV) (v : Value), RepD w F a v → RepD w' F' a v
  | .int _ _, _, h => h
  | .bool _, _, h => h
  | .str _, _, h => h
  | .nil, _, h => h
  | .undef, _, h => h
  | .bp _ _, _, h => h
  | .ap _ _ _, _, h => h
  | .er _ _, _, h => h
  | .ms _ _ _, _, h => h
  | .fn _ _, _, h => h
  | .yl _, _, h => h
  | .sl rows, v, h => by
      unfold RepD at h ⊢
      obtain ⟨a, cap, h1, h2, h3, h4⟩ := h
      refine ⟨a, cap, h1, h2, h3, ?_⟩
      rcases h4 with h4 | ⟨b, off, sz, h4, h5, h6⟩
      · exact .inl h4
      · exact .inr ⟨b, off, sz, h4, hF b h5, RepR.mono hF hc b h5 sz rows off h6⟩
  | .agg cs, v, h => by
      unfold RepD at h ⊢
      obtain ⟨vs, h1, h2⟩ := h
      exact ⟨vs, h1, RepDL.mono hF hc cs vs h2⟩
  | .tup cs, v, h => by
      unfold RepD at h ⊢
      obtain ⟨vs, h1, h2⟩ := h
      exact ⟨vs, h1, RepDL.mono hF hc cs vs h2⟩
theorem RepDL.mono {w w' : World} {F F' : Foot} (hF : ∀ b, F b → F' b) (hc : ∀ b, F b → w'.heap[b]? = w.heap[b]?) : ∀ (l : List AV) (vs : List Value), RepDL w F l vs → RepDL w' F' l vs
  | [], _, h => by unfold RepDL at h ⊢; exact h
  | c :: cs, vs, h => by
      unfold RepDL at h ⊢
      obtain ⟨v, vs', h1, h2, h3⟩ := h
      exact ⟨v, vs', h1, RepD.mono hF hc c v h2, RepDL.mono hF hc cs vs' h3⟩
theorem RepC.mono {w w' : World} {F F' : Foot} (hF : ∀ b, F b → F' b) (hc : ∀ b, F b → w'.heap[b]? = w.heap[b]?) (b : Nat) (hb : F b) : ∀ (l : List AV) (o : Nat), RepC w F b l o → RepC w' F' b l o
  | [], _, h => by unfold RepC at h ⊢; exact h
  | c :: cs, o, h => by
      unfold RepC at h ⊢
      obtain ⟨⟨h0, v, h1, h2⟩, h3⟩ := h
      exact ⟨⟨h0, v, (World.cell?_of_block (hc b hb)).trans h1, RepD.mono hF hc c v h2⟩, RepC.mono hF hc b hb cs (o + 1) h3⟩
theorem RepR.mono {w w' : World} {F F' : Foot} (hF : ∀ b, F b → F' b) (hc : ∀ b, F b → w'.heap[b]? = w.heap[b]?) (b : Nat) (hb : F b) (sz : Nat) : ∀ (l : List (List AV)) (o : Nat), RepR w F b sz l o → RepR w' F' b sz l o
  | [], _, h => by unfold RepR at h ⊢; exact h
  | r :: rs, o, h => by
      unfold RepR at h ⊢
      exact ⟨h.1, RepC.mono hF hc b hb r o h.2.1, RepR.mono hF hc b hb sz rs (o + sz) h.2.2⟩
end
mutual
theorem RepM.mono {w w' : World} {F F' : Foot} (hF : ∀ b, F b → F' b) (hc : ∀ b, F b → w'.heap[b]? = w.heap[b]?) {M M' : Nat → Option MB} (hM : ∀ k m, M k = some m → M' k = some m) : ∀ (a : AV) (v : Value), RepM w F M a v → RepM w' F' M' a v
  | .int _ _, _, h => h
  | .bool _, _, h => h
  | .str _, _, h => h
  | .nil, _, h => h
  | .undef, _, h => h
  | .sl rows, v, h => RepD.mono hF hc (.sl rows) v h
  | .bp k o, v, h => by
      unfold RepM at h ⊢
      obtain ⟨m, h1, h2⟩ := h
      exact ⟨m, hM k m h1, h2⟩
  | .ap k r o, v, h => by
      unfold RepM at h ⊢
      obtain ⟨m, h1, h2⟩ := h
      exact ⟨m, hM k m h1, h2⟩
  | .ms k off n, v, h => by
      unfold RepM at h ⊢
      obtain ⟨m, h1, h2⟩ := h
      exact ⟨m, hM k m h1, h2⟩
  | .er row o, v, h => by
      unfold RepM at h ⊢
      obtain ⟨b, off, h1, h2, h3⟩ := h
      exact ⟨b, off, h1, hF b h2, RepC.mono hF hc b h2 row off h3⟩
  | .agg cs, v, h => by
      unfold RepM at h ⊢
      obtain ⟨vs, h1, h2⟩ := h
      exact ⟨vs, h1, RepML.mono hF hc hM cs vs h2⟩
  | .tup cs, v, h => by
      unfold RepM at h ⊢
      obtain ⟨vs, h1, h2⟩ := h
      exact ⟨vs, h1, RepML.mono hF hc hM cs vs h2⟩
  | .fn f cs, v, h => by
      unfold RepM at h ⊢
      obtain ⟨vs, h1, h2⟩ := h
      exact ⟨vs, h1, RepML.mono hF hc hM cs vs h2⟩
  | .yl l, v, h => by unfold RepM at h ⊢; exact h
theorem RepML.mono {w w' : World} {F F' : Foot} (hF : ∀ b, F b → F' b) (hc : ∀ b, F b → w'.heap[b]? = w.heap[b]?) {M M' : Nat → Option MB} (hM : ∀ k m, M k = some m → M' k = some m) : ∀ (l : List AV) (vs : List Value), RepML w F M l vs → RepML w' F' M' l vs
  | [], _, h => by unfold RepML at h ⊢; exact h
  | c :: cs, vs, h => by
      unfold RepML at h ⊢
      obtain ⟨v, vs', h1, h2, h3⟩ := h
      exact ⟨v, vs', h1, RepM.mono hF hc hM c v h2, RepML.mono hF hc hM cs vs' h3⟩
end
end mono

section
variable {w : World} {F : Foot} {M : Nat → Option MB}
mutual
theorem RepM.of_D : ∀ (a : AV) (v : Value), RepD w F a v → RepM w F M a v
  | .int _ _, _, h => h
  | .bool _, _, h => h
  | .str _, _, h => h
  | .nil, _, h => h
  | .undef, _, _ => trivial
  | .sl rows, v, h => h
  | .bp _ _, _, h => False.elim (by unfold RepD at h; exact h)
  | .ap _ _ _, _, h => False.elim (by unfold RepD at h; exact h)
  | .ms _ _ _, _, h => False.elim (by unfold RepD at h; exact h)
  | .er _ _, _, h => False.elim (by unfold RepD at h; exact h)
  | .fn _ _, _, h => False.elim (by unfold RepD at h; exact h)
  | .yl _, _, h => False.elim (by unfold RepD at h; exact h)
  | .agg cs, v, h => by
      unfold RepD at h; unfold RepM
      obtain ⟨vs, h1, h2⟩ := h
      exact ⟨vs, h1, RepML.of_D cs vs h2⟩
  | .tup cs, v, h => by
      unfold RepD at h; unfold RepM
      obtain ⟨vs, h1, h2⟩ := h
      exact ⟨vs, h1, RepML.of_D cs vs h2⟩
theorem RepML.of_D : ∀ (l : List AV) (vs : List Value), RepDL w F l vs → RepML w F M l vs
  | [], _, h => by unfold RepDL at h; unfold RepML; exact h
  | c :: cs, vs, h => by
      unfold RepDL at h; unfold RepML
      obtain ⟨v, vs', h1, h2, h3⟩ := h
      exact ⟨v, vs', h1, RepM.of_D c v h2, RepML.of_D cs vs' h3⟩
end

theorem RepML.len : ∀ (l : List AV) (vs : List Value), RepML w F M l vs → vs.length = l.length
  | [], _, h => by unfold RepML at h; rw [h]; rfl
  | c :: cs, vs, h => by
      unfold RepML at h
      obtain ⟨v, vs', h1, h2, h3⟩ := h
      rw [h1, List.length_cons, RepML.len cs vs' h3, List.length_cons]

theorem RepMC.app {b : Nat} : ∀ (l m : List AV) (o : Nat), RepMC w F M b (l ++ m) o ↔ RepMC w F M b l o ∧ RepMC w F M b m (o + l.length)
  | [], m, o => by simp [RepMC]
  | c :: cs, m, o => by
      simp only [List.cons_append, RepMC, List.length_cons]
      rw [RepMC.app cs m (o + 1), show o + 1 + cs.length = o + (cs.length + 1) by omega]
      exact and_assoc.symm
theorem RepC.app {b : Nat} : ∀ (l m : List AV) (o : Nat), RepC w F b (l ++ m) o ↔ RepC w F b l o ∧ RepC w F b m (o + l.length)
  | [], m, o => by simp [RepC]
  | c :: cs, m, o => by
      simp only [List.cons_append, RepC, List.length_cons]
      rw [RepC.app cs m (o + 1), show o + 1 + cs.length = o + (cs.length + 1) by omega]
      exact and_assoc.symm
theorem RepR.app {b sz : Nat} : ∀ (l m : List (List AV)) (o : Nat), RepR w F b sz (l ++ m) o ↔ RepR w F b sz l o ∧ RepR w F b sz m (o + l.length * sz)
  | [], m, o => by simp [RepR]
  | c :: cs, m, o => by
      simp only [List.cons_append, RepR, List.length_cons]
      rw [RepR.app cs m (o + sz), show o + sz + cs.length * sz = o + (cs.length + 1) * sz by rw [Nat.add_mul]; omega]
      constructor
      · rintro ⟨a, b, c, d⟩; exact ⟨⟨a, b, c⟩, d⟩
      · rintro ⟨⟨a, b, c⟩, d⟩; exact ⟨a, b, c, d⟩
theorem RepR.at {b sz : Nat} : ∀ (l : List (List AV)) (o r : Nat) (row : List AV), RepR w F b sz l o → l[r]? = some row → row.length = sz ∧ RepC w F b row (o + r * sz)
  | [], _, _, _, _, h => by simp at h
  | c :: cs, o, 0, row, h, e => by
      unfold RepR at h
      simp at e; subst e
      simpa using ⟨h.1, h.2.1⟩
  | c :: cs, o, r + 1, row, h, e => by
      unfold RepR at h
      have := RepR.at cs (o + sz) r row h.2.2 (by simpa using e)
      rw [show o + (r + 1) * sz = o + sz + r * sz by rw [Nat.add_mul]; omega]
      exact this
theorem RepR.rowlen {b sz : Nat} {l : List (List AV)} {o : Nat} (h : RepR w F b sz l o) : ∀ row ∈ l, row.length = sz := by
  intro row hr
  obtain ⟨r, hr⟩ := List.getElem?_of_mem hr
  exact (RepR.at l o r row h hr).1
theorem RepMC.of_C {b : Nat} : ∀ (l : List AV) (o : Nat), RepC w F b l o → RepMC w F M b l o
  | [], _, _ => trivial
  | c :: cs, o, h => by
      unfold RepC at h; unfold RepMC
      obtain ⟨⟨h0, v, h1, h2⟩, h3⟩ := h
      exact ⟨⟨h0, v, h1, RepM.of_D c v h2⟩, RepMC.of_C cs (o + 1) h3⟩
theorem RepMC.at {b : Nat} : ∀ (l : List AV) (o j : Nat) (c : AV), RepMC w F M b l o → l[j]? = some c → one c = true ∧ ∃ v, w.cell? ⟨b, o + j, none⟩ = some v ∧ RepM w F M c v
  | [], _, _, _, _, h => by simp at h
  | c :: cs, o, 0, d, h, e => by
      unfold RepMC at h
      simp at e; subst e
      exact h.1
  | c :: cs, o, j + 1, d, h, e => by
      unfold RepMC at h
      rw [show o + (j + 1) = o + 1 + j by omega]
      exact RepMC.at cs (o + 1) j d h.2 (by simpa using e)
end
end Ab
