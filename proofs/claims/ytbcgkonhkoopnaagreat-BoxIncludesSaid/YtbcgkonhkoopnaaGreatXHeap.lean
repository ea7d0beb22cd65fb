import Derived.Test.YtbcgkonhkoopnaaGreatXRel
/-!
The relation between an abstract state and a real one; values that become data.
-/
namespace Ab
open Go Go.RowKit

/-- the real block of a variable or an array -/
def Own (w : World) (m : MB) : Prop := ∃ cur : Array Value, w.heap[m.b]? = some (.cells cur m.e (0, 0)) ∧ cur.size = m.cap * m.sz

theorem Own.lt {w : World} {m : MB} (h : Own w m) : m.b < w.heap.size := by
  obtain ⟨c, h, _⟩ := h; exact (Array.getElem?_eq_some_iff.1 h).1
theorem Own.keep {w w' : World} {m : MB} (h : Own w m) (he : w'.heap[m.b]? = w.heap[m.b]?) : Own w' m := by
  obtain ⟨c, h1, h2⟩ := h; exact ⟨c, he.trans h1, h2⟩

structure Ctx where
  P : Program
  T : List (Nat × TyI)
  gl : List (Nat × AV)
  /-- the world and the data at the call's start -/
  w0 : World
  F0 : Foot
  /-- blocks that are neither data nor the call's own, and what they hold -/
  al : List (Nat × Obj) := []
  /-- a world that came before -/
  base : Option (Foot × (Nat → Option MB) × World) := none

def TOk (P : Program) (T : List (Nat × TyI)) : Prop := ∀ t i, look T t = some i → tyOf P t = some i

theorem TOk.parts {P : Program} {T : List (Nat × TyI)} (h : TOk P T) {t : TypeId} {i : TyI} (ht : look T t = some i) :
    ∃ ti d z, P.info? t = some ti ∧ P.underlying t = some d ∧ ti.zero = some z ∧ i.sz = ti.size ∧ i.by_ = ti.bytes ∧ i.zv = ofV z ∧
      (∀ e, i.sl = some e → d = .slice e) ∧ (i.ag = true → (∃ fs, d = .struct fs) ∨ (∃ n e, d = .array n e)) ∧ (i.ag = false → (∀ fs, d ≠ .struct fs) ∧ (∀ n e, d ≠ .array n e)) ∧
      (∀ fs, d = .struct fs → i.lay = fs.toList.map fun f => (f.offset, P.cellsOf f.type)) ∧ (i.lay ≠ [] → ∃ fs, d = .struct fs) ∧
      (∀ n s, i.arr = some (n, s) → ∃ e, d = .array n e ∧ s = P.cellsOf e) ∧ (∀ k, i.k = some k → d = .int k) ∧ (i.bo = true → d = .bool) ∧
      (∀ fs, d = .struct fs → i.fo = true → ∀ f ∈ fs.toList, (P.info? f.type).isSome = true) ∧ z.cells.size = ti.size := by
  have h := h t i ht
  unfold tyOf at h
  split at h
  · rename_i ti d e1 e2
    split at h
    · rename_i z e3
      cases hq : Nat.beq z.cells.size ti.size with
      | false => rw [hq] at h; cases h
      | true =>
        rw [hq] at h
        have hq := Nat.eq_of_beq_eq_true hq
        simp only [cond_true, Option.some.injEq] at h
        subst h
        refine ⟨ti, d, z, e1, e2, e3, rfl, rfl, rfl, ?_, ?_, ?_, ?_, ?_, ?_, ?_, ?_, ?_, hq⟩ <;> cases d <;> simp
        intro hh f hf
        obtain ⟨j, hj, rfl⟩ := Array.mem_iff_getElem.1 hf
        exact hh j hj
    · cases h
  · cases h

/-- a block that is neither data nor the call's own -/
def Alien (c : Ctx) (F : Foot) (M : Nat → Option MB) (D : Nat) : Prop := c.w0.heap.size ≤ D ∧ ¬ F D ∧ ∀ k m, M k = some m → m.b ≠ D
theorem Alien.tr {c : Ctx} {F F' : Foot} {M M' : Nat → Option MB} {w w' : World} (t : Tr F M w F' M' w') {D : Nat} (h : Alien c F M D) (hD : D < w.heap.size) : Alien c F' M' D ∧ w'.heap[D]? = w.heap[D]? := by
  obtain ⟨h1, h2, h3⟩ := t.alien hD h.2.1 h.2.2
  exact ⟨⟨h.1, h1, h2⟩, h3⟩
def AlOk (c : Ctx) (F : Foot) (M : Nat → Option MB) (al : List (Nat × Obj)) (w : World) : Prop := ∀ p ∈ al, Alien c F M p.1 ∧ w.heap[p.1]? = some p.2
theorem AlOk.tr {c : Ctx} {F F' : Foot} {M M' : Nat → Option MB} {w w' : World} (t : Tr F M w F' M' w') {al : List (Nat × Obj)} (h : AlOk c F M al w) : AlOk c F' M' al w' := fun p hp => by
  obtain ⟨h4, h5⟩ := h p hp
  obtain ⟨h6, h7⟩ := h4.tr t (Array.getElem?_eq_some_iff.1 h5).1
  exact ⟨h6, h7.trans h5⟩

def BaseOk (c : Ctx) (F : Foot) (M : Nat → Option MB) (w : World) : Prop := ∀ b, c.base = some b → Tr b.1 b.2.1 b.2.2 F M w ∧ ∀ k, b.1 k → k < b.2.2.heap.size
theorem BaseOk.tr {c : Ctx} {F F' : Foot} {M M' : Nat → Option MB} {w w' : World} (t : Tr F M w F' M' w') (h : BaseOk c F M w) : BaseOk c F' M' w' := fun b hb => ⟨(h b hb).1.trans t, (h b hb).2⟩

structure HR (c : Ctx) (F : Foot) (M : Nat → Option MB) (hp : Nat → Option Blk) (nx : Nat) (w : World) : Prop where
  box : ∀ k cs, hp k = some (.box cs) → ∃ m, M k = some m ∧ c.w0.heap.size ≤ m.b ∧ ¬ F m.b ∧ Own w m ∧ (m.sz = 1 ∧ cs.length = m.cap) ∧ RepMC w F M m.b cs 0
  arr : ∀ k sz rows lv, hp k = some (.arr sz rows lv) → ∃ m, M k = some m ∧ (m.e, m.sz) = sz ∧ c.w0.heap.size ≤ m.b ∧ (lv = true → ¬ F m.b) ∧ (lv = false → F m.b) ∧ Own w m ∧ (rows.length ≤ m.cap ∧ m.cap ≤ maxLen) ∧ 0 < m.sz ∧ RepR w F m.b m.sz rows 0
  own : ∀ k et cs, hp k = some (.own et cs) → ∃ m, M k = some m ∧ (m.e = et ∧ m.sz = 1) ∧ c.w0.heap.size ≤ m.b ∧ ¬ F m.b ∧ Own w m ∧ (cs.length ≤ m.cap ∧ m.cap ≤ maxLen) ∧ RepMC w F M m.b cs 0
  inj : ∀ k k' m m', hp k ≠ none → hp k' ≠ none → M k = some m → M k' = some m' → m.b = m'.b → k = k'
  dom : ∀ k, nx ≤ k → M k = none ∧ hp k = none
  fl : ∀ b, F b → b < w.heap.size
  hist : ∀ b, F b → c.F0 b ∨ c.w0.heap.size ≤ b
  gl : ∀ g av, look c.gl g = some av → RepM w F (fun _ => none) av (.pointer (some ⟨g, 0, none⟩))
  bel : Below c.w0.heap.size c.w0 w
  ml : ∀ k m, M k = some m → m.b < w.heap.size
  al : AlOk c F M c.al w
  base : BaseOk c F M w
  res : ∀ k, hp k = some .res → M k = none

/-- the mark of a range over a function, among the deferred calls -/
def mark (D : Nat) : Deferred := { target := .collected D, args := #[] }
/-- the deferred calls are marks alone -/
def DfOk (c : Ctx) (F : Foot) (M : Nat → Option MB) (ds : List Deferred) (w : World) : Prop :=
  ∃ Ds : List Nat, ds = Ds.map mark ∧ Ds.Nodup ∧ ∀ D ∈ Ds, (Alien c F M D ∧ (∀ b, c.base = some b → b.2.2.heap.size ≤ D)) ∧ w.heap[D]? = some (.deferred (some []))
theorem DfOk.nil {c : Ctx} {F : Foot} {M : Nat → Option MB} {w : World} : DfOk c F M [] w := ⟨[], rfl, List.nodup_nil, fun _ h => by cases h⟩
theorem DfOk.tr {c : Ctx} {F F' : Foot} {M M' : Nat → Option MB} {w w' : World} (t : Tr F M w F' M' w') {ds : List Deferred} (h : DfOk c F M ds w) : DfOk c F' M' ds w' := by
  obtain ⟨Ds, h1, h2, h3⟩ := h
  refine ⟨Ds, h1, h2, fun D hD => ?_⟩
  obtain ⟨h4, h5⟩ := h3 D hD
  obtain ⟨h6, h7⟩ := h4.1.tr t (Array.getElem?_eq_some_iff.1 h5).1
  exact ⟨⟨h6, h4.2⟩, h7.trans h5⟩

structure Rel (c : Ctx) (N : Nat) (F : Foot) (M : Nat → Option MB) (s : St) (a : Act) (w : World) : Prop extends HR c F M s.hp s.nx w where
  tm : ∀ t, t < N → RepM w F M (s.tm t) (a.tmps.getD t undef)
  df : DfOk c F M a.defers w
  sz : a.tmps.size = N

def Post (c : Ctx) (N : Nat) (F : Foot) (M : Nat → Option MB) (w : World) (K : St → Prop) : Act → World → Prop := fun a' w' =>
  ∃ s' F' M', Rel c N F' M' s' a' w' ∧ Tr F M w F' M' w' ∧ K s'

theorem RepM.tr {w w' : World} {F F' : Foot} {M M' : Nat → Option MB} (t : Tr F M w F' M' w') {a : AV} {v : Value} (h : RepM w F M a v) : RepM w' F' M' a v :=
  RepM.mono t.foot t.cell t.map a v h

theorem RepML.tr {w w' : World} {F F' : Foot} {M M' : Nat → Option MB} (t : Tr F M w F' M' w') {a : List AV} {v : List Value} (h : RepML w F M a v) : RepML w' F' M' a v :=
  RepML.mono t.foot t.cell t.map a v h

theorem RepMC.keep {w w' : World} {F F' : Foot} {M M' : Nat → Option MB} (t : Tr F M w F' M' w') {b : Nat} (hb : w'.heap[b]? = w.heap[b]?) : ∀ (l : List AV) (o : Nat), RepMC w F M b l o → RepMC w' F' M' b l o
  | [], _, _ => trivial
  | c :: cs, o, h => by
      unfold RepMC at h ⊢
      obtain ⟨⟨h0, v, h1, h2⟩, h3⟩ := h
      exact ⟨⟨h0, v, (World.cell?_of_block hb).trans h1, h2.tr t⟩, RepMC.keep t hb cs (o + 1) h3⟩

theorem RepR.keep {w w' : World} {F F' : Foot} (hF : ∀ b, F b → F' b) (hc : ∀ b, F b → w'.heap[b]? = w.heap[b]?) {b sz : Nat} (hb : w'.heap[b]? = w.heap[b]?) : ∀ (l : List (List AV)) (o : Nat), RepR w F b sz l o → RepR w' F' b sz l o
  | [], _, _ => by unfold RepR; trivial
  | r :: rs, o, h => by
      unfold RepR at h ⊢
      refine ⟨h.1, ?_, RepR.keep hF hc hb rs (o + sz) h.2.2⟩
      exact go r o h.2.1
where
  go : ∀ (l : List AV) (o : Nat), RepC w F b l o → RepC w' F' b l o
  | [], _, _ => by unfold RepC; trivial
  | c :: cs, o, h => by
      unfold RepC at h ⊢
      obtain ⟨⟨h0, v, h1, h2⟩, h3⟩ := h
      exact ⟨⟨h0, v, (World.cell?_of_block hb).trans h1, RepD.mono hF hc c v h2⟩, go cs (o + 1) h3⟩

/-- nothing of the call's own is touched -/
theorem HR.keep {c : Ctx} {F F' : Foot} {M : Nat → Option MB} {hp : Nat → Option Blk} {nx : Nat} {w w' : World} (h : HR c F M hp nx w)
    (hb : ∀ b, b < w.heap.size → w'.heap[b]? = w.heap[b]?) (hF : ∀ b, F b → F' b) (hn : ∀ b, F' b → F b ∨ w.heap.size ≤ b) (hl : ∀ b, F' b → b < w'.heap.size) (hB : Below c.w0.heap.size c.w0 w') :
    HR c F' M hp nx w' ∧ Tr F M w F' M w' := by
  have hsz : w.heap.size ≤ w'.heap.size := by
    apply Nat.le_of_not_lt; intro hlt
    have := hb w'.heap.size hlt
    rw [Array.getElem?_eq_none (Nat.le_refl _), Array.getElem?_eq_getElem hlt] at this
    cases this
  have t : Tr F M w F' M w' := ⟨hF, fun b h1 => hb b (h.fl b h1), fun _ _ h => h, hsz, fun b h1 => (hn b h1).imp id .inr, fun k m h => .inl ⟨k, m, h, rfl⟩, fun b h1 _ => hb b h1⟩
  refine ⟨⟨fun k cs hk => ?_, fun k sz rows lv hk => ?_, fun k et cs hk => ?_, h.inj, h.dom, hl, fun b hb' => ?_, fun g av hg => RepM.mono t.foot t.cell (fun _ _ h => h) _ _ (h.gl g av hg), hB, fun k m hk => Nat.lt_of_lt_of_le (h.ml k m hk) hsz, h.al.tr t, h.base.tr t, h.res⟩, t⟩
  · obtain ⟨m, h1, h2, h3, h4, h5, h6⟩ := h.box k cs hk
    have he := hb m.b h4.lt
    refine ⟨m, h1, h2, fun hf => ?_, h4.keep he, h5, RepMC.keep t he cs 0 h6⟩
    rcases hn _ hf with hf | hf
    · exact h3 hf
    · have := h4.lt; omega
  · obtain ⟨m, h1, h0, h2, h3, h4, h5, h6, h7, h8⟩ := h.arr k sz rows lv hk
    have he := hb m.b h5.lt
    refine ⟨m, h1, h0, h2, fun hlv hf => ?_, fun hlv => hF _ (h4 hlv), h5.keep he, h6, h7, RepR.keep t.foot t.cell he rows 0 h8⟩
    rcases hn _ hf with hf | hf
    · exact h3 hlv hf
    · have := h5.lt; omega
  · obtain ⟨m, h1, h0, h2, h3, h4, h5, h6⟩ := h.own k et cs hk
    have he := hb m.b h4.lt
    refine ⟨m, h1, h0, h2, fun hf => ?_, h4.keep he, h5, RepMC.keep t he cs 0 h6⟩
    rcases hn _ hf with hf | hf
    · exact h3 hf
    · have := h4.lt; omega
  · rcases hn b hb' with h1 | h1
    · exact h.hist b h1
    · exact .inr (Nat.le_trans h.bel.size h1)

theorem evOfV {w : World} {F : Foot} {M : Nat → Option MB} : ∀ (v : Value), RepM w F M (ofV v) v
  | .int _ _ => by unfold ofV RepM; rfl
  | .bool _ => by unfold ofV RepM; rfl
  | .string _ => by unfold ofV RepM; rfl
  | .slice none 0 0 => by unfold ofV RepM; rfl
  | .agg ⟨cs⟩ => by unfold ofV RepM; exact ⟨cs, rfl, go cs⟩
  | .tuple ⟨cs⟩ => by unfold ofV RepM; exact ⟨cs, rfl, go cs⟩
  | .slice none 0 (n + 1) => by unfold ofV RepM; trivial
  | .slice none (n + 1) _ => by unfold ofV RepM; trivial
  | .slice (some _) _ _ => by unfold ofV RepM; trivial
  | .float _ _ => by unfold ofV RepM; trivial
  | .complex _ _ _ => by unfold ofV RepM; trivial
  | .pointer _ => by unfold ofV RepM; trivial
  | .map _ => by unfold ofV RepM; trivial
  | .chan _ => by unfold ofV RepM; trivial
  | .func _ _ _ => by unfold ofV RepM; trivial
  | .nilFunc => by unfold ofV RepM; trivial
  | .iface _ _ => by unfold ofV RepM; trivial
  | .nilIface => by unfold ofV RepM; trivial
where
  go : ∀ (cs : List Value), RepML w F M (ofVs cs) cs
  | [] => by unfold ofVs RepML; rfl
  | v :: vs => by unfold ofVs RepML; exact ⟨v, vs, rfl, evOfV v, go vs⟩

theorem Rel.ev {c : Ctx} {N : Nat} {F : Foot} {M : Nat → Option MB} {s : St} {a : Act} {w : World} (h : Rel c N F M s a w) (x : Operand) (hx : ∀ t, x = .tmp t → t < N) :
    RepM w F M (ev c.gl s x) (a.eval x) := by
  cases x with
  | tmp t => exact h.tm t (hx t rfl)
  | const v => exact evOfV v
  | global g =>
    simp only [Ab.ev, Act.eval]
    cases hg : look c.gl g with
    | none => simp [RepM]
    | some av => exact RepM.mono (fun _ h => h) (fun _ _ => rfl) (fun _ _ h => by cases h) _ _ (h.gl g av hg)
  | func f => unfold Ab.ev RepM; exact ⟨[], rfl, by unfold RepML; rfl⟩
end Ab
