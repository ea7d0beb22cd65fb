import Derived.Calls
import Derived.Orders
import Derived.Below
import Derived.Laws.Entries
/-!
An abstract machine: data by value, a small heap of blocks of the call's own. Definitions alone.
-/
namespace Ab
open Go

inductive AV where
  | int (k : IntKind) (n : Int)
  | bool (b : Bool)
  | str (s : ByteArray)
  /-- a slice whose elements are known and do not change -/
  | sl (rows : List (List AV))
  /-- the nil slice -/
  | nil
  | agg (cells : List AV)
  | tup (vs : List AV)
  /-- the address of cell o of a variable of the call's own -/
  | bp (k o : Nat)
  /-- the address of cell o of element r of an array of the call's own -/
  | ap (k r o : Nat)
  /-- the address of cell o of an element that does not change -/
  | er (row : List AV) (o : Nat)
  /-- a slice of an array of the call's own -/
  | ms (k off len : Nat)
  | fn (f : FuncId) (cap : List AV)
  /-- the yield of loop l -/
  | yl (l : Nat)
  | undef
  deriving Inhabited

inductive Blk where
  /-- a variable -/
  | box (cells : List AV)
  /-- an array of elements (their type, their size), which are data; live: it may be written -/
  | arr (sz : Nat × Nat) (rows : List (List AV)) (live : Bool)
  /-- an array of elements of one cell (their type), which need not be data -/
  | own (et : Nat) (cells : List AV)
  /-- a key that is kept for an allocation of the region -/
  | res

/-- what is called -/
inductive Tg where
  | fn (f : FuncId)
  | yl (l : Nat)

structure St where
  tm : Nat → AV
  hp : Nat → Option Blk
  nx : Nat

def put (d : Option Nat) (v : AV) (s : St) : St :=
  match d with
  | some d => ⟨fun k => bif Nat.beq k d then v else s.tm k, s.hp, s.nx⟩
  | none => s

def upd (k : Nat) (b : Option Blk) (h : Nat → Option Blk) : Nat → Option Blk := fun j => bif Nat.beq j k then b else h j

def alloc (b : Blk) (s : St) : St := ⟨s.tm, upd s.nx (some b) s.hp, Nat.succ s.nx⟩
def setB (k : Nat) (b : Option Blk) (s : St) : St := ⟨s.tm, upd k b s.hp, s.nx⟩

mutual
def ofV : Value → AV
  | .int k n => .int k n
  | .bool b => .bool b
  | .string s => .str s
  | .slice none 0 0 => .nil
  | .agg ⟨cs⟩ => .agg (ofVs cs)
  | .tuple ⟨cs⟩ => .tup (ofVs cs)
  | _ => .undef
def ofVs : List Value → List AV
  | [] => []
  | v :: vs => ofV v :: ofVs vs
end

def cells : AV → List AV
  | .agg cs => cs
  | v => [v]

/-- there is a pointer or a function among them -/
def ptrs : List AV → Bool
  | [] => false
  | .bp _ _ :: _ => true
  | .fn _ _ :: _ => true
  | _ :: vs => ptrs vs

/-- it fits into one cell -/
def one : AV → Bool
  | .agg _ | .tup _ | .undef => false
  | _ => true
def ones : List AV → Bool
  | [] => true
  | v :: vs => and (one v) (ones vs)

/-- the value, worked out -/
def force (v : AV) (K : AV → Prop) : Prop :=
  match v with
  | .int k n => K (.int k n)
  | .bool b => K (.bool b)
  | .str s => K (.str s)
  | .sl r => K (.sl r)
  | .nil => K .nil
  | .agg cs => K (.agg cs)
  | .tup vs => K (.tup vs)
  | .bp k o => K (.bp k o)
  | .ap k r o => K (.ap k r o)
  | .er row o => K (.er row o)
  | .ms k o n => K (.ms k o n)
  | .fn f c => K (.fn f c)
  | .yl l => K (.yl l)
  | .undef => K .undef
def forceL : List AV → (List AV → Prop) → Prop
  | [], K => K []
  | v :: vs, K => force v fun v => forceL vs fun vs => K (v :: vs)

theorem force_eq (v : AV) (K : AV → Prop) : force v K = K v := by cases v <;> rfl
theorem forceL_eq (l : List AV) (K : List AV → Prop) : forceL l K = K l := by
  induction l generalizing K with
  | nil => rfl
  | cons v vs ih => simp only [forceL, force_eq, ih]

/-- what the program's tables say of a type -/
structure TyI where
  sz : Nat
  by_ : Nat
  zv : AV
  /-- the element's type, of a slice's type -/
  sl : Option TypeId
  /-- a struct or an array -/
  ag : Bool
  /-- the place and the size of each field -/
  lay : List (Nat × Nat)
  /-- the length of an array, and its elements' size -/
  arr : Option (Nat × Nat)
  k : Option IntKind
  bo : Bool
  /-- the tables know the type of each field -/
  fo : Bool
  /-- the type of an array's elements -/
  ael : Option TypeId
  /-- == looks at each cell, which is an integer or a bool -/
  eqs : Option (List Bool)
  /-- which fields are structs or arrays -/
  fag : List Bool
  /-- a string -/
  st : Bool := false

def isIntT (P : Program) (t : TypeId) : Bool := match P.underlying t with | some (.int _) => true | _ => false
def isAggT (P : Program) (t : TypeId) : Bool := match P.underlying t with | some (.struct _) => true | some (.array _ _) => true | _ => false
def scal (P : Program) (t : TypeId) : Bool := match P.underlying t with | some (.int _) => true | some .bool => true | _ => false
def eqFs (P : Program) : Nat → List Field → Bool
  | _, [] => true
  | i, f :: fs => and (and (Nat.beq f.offset i) (and (not (f.name == "_")) (scal P f.type))) (eqFs P (i + 1) fs)
def eqTy (P : Program) (t : TypeId) (fs : Array Field) : Bool := and (and (not (P.stoodInHeld t)) (not (P.eqGuardType P.depth t))) (eqFs P 0 fs.toList)

def tyOf (P : Program) (t : TypeId) : Option TyI :=
  match P.info? t, P.underlying t with
  | some i, some d =>
    match i.zero with
    | some z => bif Nat.beq z.cells.size i.size then some {
        sz := i.size, by_ := i.bytes, zv := ofV z
        sl := match d with | .slice e => some e | _ => none
        ag := match d with | .struct _ | .array _ _ => true | _ => false
        lay := match d with | .struct fs => fs.toList.map fun f => (f.offset, P.cellsOf f.type) | _ => []
        arr := match d with | .array n e => some (n, P.cellsOf e) | _ => none
        k := match d with | .int k => some k | _ => none
        bo := match d with | .bool => true | _ => false
        fo := match d with | .struct fs => fs.toList.all fun f => (P.info? f.type).isSome | _ => true
        ael := match d with | .array _ e => some e | _ => none
        eqs := match d with | .struct fs => (match eqTy P t fs with | true => some (fs.toList.map fun f => isIntT P f.type) | false => none) | _ => none
        fag := match d with | .struct fs => (match fs.toList.all (fun f => (P.underlying f.type).isSome) with | true => fs.toList.map fun f => isAggT P f.type | false => []) | _ => []
        st := match d with | .string => true | _ => false } else none
    | none => none
  | _, _ => none

def arrLay : Nat → Nat → Nat → List (Nat × Nat)
  | 0, _, _ => []
  | n + 1, sz, o => (o, sz) :: arrLay n sz (o + sz)
/-- the places of a struct's or an array's parts -/
def layOf (i : TyI) : List (Nat × Nat) :=
  match i.lay with
  | [] => match i.arr with
    | some (n, Nat.succ sz) => arrLay n (Nat.succ sz) 0
    | _ => []
  | l => l

def look {α : Type} : List (Nat × α) → Nat → Option α
  | [], _ => none
  | (j, v) :: l, k => bif Nat.beq k j then some v else look l k
def nth {α : Type} : List α → Nat → Option α
  | [], _ => none
  | v :: l, k => bif Nat.beq k 0 then some v else nth l (Nat.pred k)

def ev (gl : List (Nat × AV)) (s : St) : Operand → AV
  | .tmp t => s.tm t
  | .const v => ofV v
  | .global g => (look gl g).getD .undef
  | .func f => .fn f []
def evs (gl : List (Nat × AV)) (s : St) : List Operand → List AV
  | [] => []
  | x :: xs => ev gl s x :: evs gl s xs
def evParts (gl : List (Nat × AV)) (s : St) : List (Nat × Operand) → List (Nat × AV)
  | [] => []
  | (i, x) :: xs => (i, ev gl s x) :: evParts gl s xs

def eqK (a b : IntKind) : Bool := decide (a = b)

/-- cells that are equal -/
def eqAll : List Bool → List AV → List AV → (Bool → Prop) → Prop
  | [], [], [], K => K true
  | true :: ks, .int k a :: xs, .int k' b :: ys, K => match eqK k k' with | true => eqAll ks xs ys fun r => K (and (a == b) r) | false => False
  | false :: ks, .bool a :: xs, .bool b :: ys, K => eqAll ks xs ys fun r => K (and (a == b) r)
  | _, _, _, _ => False

/-- an operation on two values; the conditions say that it does not panic -/
def bin (tb : Option TyI) (op : BinOp) (x y : AV) (K : AV → Prop) : Prop :=
  match x with
  | .int k a => match y with
    | .int k' b =>
      match op with
      | .shl => 0 ≤ b ∧ K (.int k (k.wrap (a * 2 ^ (min b.toNat k.bits))))
      | .shr => 0 ≤ b ∧ K (.int k (a.fdiv (2 ^ (min b.toNat k.bits))))
      | op => match eqK k k' with
        | false => False
        | true => match op with
          | .quo => b ≠ 0 ∧ K (.int k (k.wrap (a.tdiv b)))
          | .rem => b ≠ 0 ∧ K (.int k (a.tmod b))
          | .add => K (.int k (k.wrap (a + b)))
          | .sub => K (.int k (k.wrap (a - b)))
          | .mul => K (.int k (k.wrap (a * b)))
          | .eql => K (.bool (a == b))
          | .neq => K (.bool (a != b))
          | .lss => K (.bool (decide (a < b)))
          | .leq => K (.bool (decide (a ≤ b)))
          | .gtr => K (.bool (decide (a > b)))
          | .geq => K (.bool (decide (a ≥ b)))
          | .and => K (.int k (Go.bits .and k a b))
          | .or => K (.int k (Go.bits .or k a b))
          | .xor => K (.int k (Go.bits .xor k a b))
          | .andNot => K (.int k (Go.bits .andNot k a b))
          | _ => False
    | _ => False
  | .bool a => match y with
    | .bool b => match tb with
      | some i => match i.bo with
        | true => match op with
          | .eql => K (.bool (a == b))
          | .neq => K (.bool (a != b))
          | _ => False
        | false => False
      | none => False
    | _ => False
  | .agg xs => match y with
    | .agg ys => match tb with
      | some i => match i.eqs with
        | some ks => match op with
            | .eql => eqAll ks xs ys fun r => K (.bool r)
            | .neq => eqAll ks xs ys fun r => K (.bool !r)
            | _ => False
        | none => False
      | none => False
    | _ => False
  | _ => False

def un (op : UnOp) (x : AV) (K : AV → Prop) : Prop :=
  match x with
  | .int k n => match op with | .neg => K (.int k (k.wrap (0 - n))) | _ => False
  | .bool b => match op with | .not => K (.bool !b) | _ => False
  | _ => False

/-- a value as an element of an array, or as an argument that is data -/
def toD (hp : Nat → Option Blk) (v : AV) (K : AV → Prop) : Prop :=
  match v with
  | .int k n => K (.int k n)
  | .bool b => K (.bool b)
  | .str s => K (.str s)
  | .sl rows => K (.sl rows)
  | .nil => K (.sl [])
  | .ms k off len => match hp k with
    | some (.arr _ rows _) => off + len ≤ rows.length ∧ K (.sl ((rows.drop off).take len))
    | _ => False
  | _ => False
def toDs (hp : Nat → Option Blk) : List AV → (List AV → Prop) → Prop
  | [], K => K []
  | v :: vs, K => toD hp v fun d => toDs hp vs fun ds => K (d :: ds)
/-- a struct's cells, or one value -/
def toDA (hp : Nat → Option Blk) (v : AV) (K : AV → Prop) : Prop :=
  match v with
  | .agg cs => toDs hp cs fun cs => K (.agg cs)
  | .tup _ => False
  | v => toD hp v K
def toDAs (hp : Nat → Option Blk) : List AV → (List AV → Prop) → Prop
  | [], K => K []
  | v :: vs, K => toDA hp v fun d => toDAs hp vs fun ds => K (d :: ds)
/-- a slice of slices of the call's own, too -/
def toW (hp : Nat → Option Blk) (v : AV) (K : AV → Prop) : Prop :=
  match v with
  | .ms k off len => match hp k with
    | some (.own _ cs) => off + len ≤ cs.length ∧ toDs hp ((cs.drop off).take len) fun ds => K (.sl (ds.map fun d => [d]))
    | _ => toD hp (.ms k off len) K
  | v => toDA hp v K
def toWs (hp : Nat → Option Blk) : List AV → (List AV → Prop) → Prop
  | [], K => K []
  | v :: vs, K => toW hp v fun d => toWs hp vs fun ds => K (d :: ds)
def toWR (hp : Nat → Option Blk) (v : AV) (K : AV → Prop) : Prop :=
  match v with
  | .tup vs => toWs hp vs fun vs => K (.tup vs)
  | v => toW hp v K
/-- slices of array variables, handed on to a function that answers plain values -/
def toP (hp : Nat → Option Blk) (v : AV) (K : AV → Prop) : Prop :=
  match v with
  | .ms k off len => match hp k with
    | some (.box cs) => (Nat.ble cs.length 65536 = true ∧ off + len ≤ cs.length) ∧ toDs (fun _ => none) ((cs.drop off).take len) fun ds => K (.sl (ds.map fun d => [d]))
    | _ => toD hp (.ms k off len) K
  | v => toDA hp v K
def toPs (hp : Nat → Option Blk) : List AV → (List AV → Prop) → Prop
  | [], K => K []
  | v :: vs, K => toP hp v fun d => toPs hp vs fun ds => K (d :: ds)
def isBox (hp : Nat → Option Blk) (v : AV) : Bool :=
  match v with
  | .ms k _ _ => match hp k with
    | some (.box _) => true
    | _ => false
  | _ => false
def boxy (hp : Nat → Option Blk) : List AV → Bool
  | [] => false
  | v :: vs => or (isBox hp v) (boxy hp vs)
/-- what a function hands back -/
def toDR (hp : Nat → Option Blk) (v : AV) (K : AV → Prop) : Prop :=
  match v with
  | .tup vs => toDAs hp vs fun vs => K (.tup vs)
  | v => toDA hp v K

/-- the arrays that a value hands on -/
def keys : AV → List Nat
  | .ms k _ _ => [k]
  | _ => []
def keysL : List AV → List Nat
  | [] => []
  | v :: vs => keys v ++ keysL vs
def keysA : AV → List Nat
  | .agg cs => keysL cs
  | v => keys v
def keysAs : List AV → List Nat
  | [] => []
  | v :: vs => keysA v ++ keysAs vs
def keysR : AV → List Nat
  | .tup vs => keysAs vs
  | v => keysA v
def keysW (hp : Nat → Option Blk) (v : AV) : List Nat :=
  match v with
  | .ms k off len => match hp k with
    | some (.own _ cs) => k :: keysL ((cs.drop off).take len)
    | _ => [k]
  | v => keysA v
def keysWs (hp : Nat → Option Blk) : List AV → List Nat
  | [] => []
  | v :: vs => keysW hp v ++ keysWs hp vs
def keysWR (hp : Nat → Option Blk) : AV → List Nat
  | .tup vs => keysWs hp vs
  | v => keysW hp v
def memN (j : Nat) : List Nat → Bool
  | [] => false
  | k :: ks => or (Nat.beq j k) (memN j ks)
def frzB : Option Blk → Option Blk
  | some (.arr sz rows _) => some (.arr sz rows false)
  | b => b
/-- they may not be written any more -/
def frz (ks : List Nat) (hp : Nat → Option Blk) : Nat → Option Blk :=
  match ks with
  | [] => hp
  | ks => fun j => bif memN j ks then frzB (hp j) else hp j

def frzC : Option Blk → Option Blk
  | some (.own _ _) => none
  | b => frzB b
/-- the like, and what is no data is let go -/
def frzW (ks : List Nat) (hp : Nat → Option Blk) : Nat → Option Blk :=
  match ks with
  | [] => hp
  | ks => fun j => bif memN j ks then frzC (hp j) else hp j

def takeL : Nat → List AV → List AV
  | 0, _ => []
  | _ + 1, [] => []
  | n + 1, v :: l => v :: takeL n l
def dropL : Nat → List AV → List AV
  | 0, l => l
  | _ + 1, [] => []
  | n + 1, _ :: l => dropL n l
def appL : List AV → List AV → List AV
  | [], m => m
  | v :: l, m => v :: appL l m
def lenL : List AV → Nat
  | [] => 0
  | _ :: l => Nat.succ (lenL l)

/-- parts in their places -/
def fillA (lay : List (Nat × Nat)) : List (Nat × AV) → List AV → (List AV → Prop) → Prop
  | [], cs, K => forceL cs K
  | (i, v) :: rest, cs, K =>
    match nth lay i with
    | some (off, size) => match and (and (Nat.beq (lenL (cells v)) size) (Nat.ble (off + size) (lenL cs))) (ones (cells v)) with
      | true => fillA lay rest (appL (takeL off cs) (appL (cells v) (dropL (off + size) cs))) K
      | false => False
    | none => False

def keysP : List (Nat × AV) → List Nat
  | [] => []
  | (_, v) :: ps => keysL (cells v) ++ keysP ps

/-- elements in their places -/
def fillR (hp : Nat → Option Blk) (size : Nat) : List (Nat × AV) → List (List AV) → (List (List AV) → Prop) → Prop
  | [], rows, K => K rows
  | (i, v) :: rest, rows, K => toDs hp (cells v) fun cs =>
    match and (Nat.beq (lenL cs) size) (Nat.ble (i + 1) rows.length) with
    | true => fillR hp size rest (rows.set i cs) K
    | false => False

/-- reading cells of a row -/
def rd (ag : Bool) (sz : Nat) (row : List AV) (o : Nat) (K : AV → Prop) : Prop :=
  match ag with
  | false => match nth row o with | some v => force v K | none => False
  | true => match Nat.ble (o + sz) (lenL row) with
    | true => forceL (takeL sz (dropL o row)) fun cs => K (.agg cs)
    | false => False

/-- where the order is open, loads look at elder blocks alone -/
def inLim (lim : Option (Nat → Bool)) (k : Nat) (K : Prop) : Prop := match lim with | none => K | some p => p k = true ∧ K
theorem inLim_out {lim : Option (Nat → Bool)} {k : Nat} {K : Prop} (h : inLim lim k K) : K := by
  unfold inLim at h
  split at h
  · exact h
  · exact h.2

section
variable (T : List (Nat × TyI)) (gl : List (Nat × AV)) (H : Tg → List AV → St → (AV → St → Prop) → Prop)

def aLoad (lim : Option (Nat → Bool)) (t : TypeId) (a : AV) (s : St) (K : AV → Prop) : Prop :=
  match look T t with
  | none => False
  | some i => match a with
    | .bp k o => inLim lim k (match s.hp k with | some (.box cs) => rd i.ag i.sz cs o K | some (.own _ cs) => rd i.ag i.sz cs o K | _ => False)
    | .ap k r o => inLim lim k (match s.hp k with | some (.arr _ rows _) => ∃ row, rows[r]? = some row ∧ rd i.ag i.sz row o K | _ => False)
    | .er row o => rd i.ag i.sz row o K
    | _ => False

def aStore (t : TypeId) (a v : AV) (s : St) (K : St → Prop) : Prop :=
  match look T t with
  | none => False
  | some i => match Nat.beq i.sz (lenL (cells v)) with
    | false => False
    | true => match a with
      | .bp k o => match s.hp k with
        | some (.box cs) => match and (ones (cells v)) (Nat.ble (o + lenL (cells v)) (lenL cs)) with
          | true => forceL (appL (takeL o cs) (appL (cells v) (dropL (o + lenL (cells v)) cs))) fun cs => K (setB k (some (.box cs)) s)
          | false => False
        | some (.own et cs) => match and (ones (cells v)) (Nat.ble (o + lenL (cells v)) (lenL cs)) with
          | true => forceL (appL (takeL o cs) (appL (cells v) (dropL (o + lenL (cells v)) cs))) fun cs => K (setB k (some (.own et cs)) s)
          | false => False
        | _ => False
      | .ap k r o => match s.hp k with
        | some (.arr sz rows true) => ∃ row, rows[r]? = some row ∧ toDs (upd k none s.hp) (cells v) fun cs => match Nat.ble (o + lenL cs) (lenL row) with
            | true => forceL (appL (takeL o row) (appL cs (dropL (o + lenL cs) row))) fun row => K (setB k (some (.arr sz (rows.set r row) true)) ⟨s.tm, frz (keysL (cells v)) s.hp, s.nx⟩)
            | false => False
        | _ => False
      | _ => False

def lenOf (x : AV) (K : Nat → Prop) : Prop :=
  match x with
  | .sl rows => K rows.length
  | .nil => K 0
  | .ms _ _ n => K n
  | _ => False

def RowsOk (sz : Nat) (rows : List (List AV)) : Prop := ∀ row ∈ rows, row.length = sz

/-- a variable that is an array, as a slice -/
def aSliceArr (lim : Option (Nat → Bool)) (t : TypeId) (x : AV) (s : St) (K : AV → Prop) : Prop :=
  match (look T t).bind fun i => i.arr with
  | some (n, 1) => match x with
    | .bp k 0 => inLim lim k (match s.hp k with
      | some (.box cs) => match Nat.beq (lenL cs) n with
        | true => K (.ms k 0 n)
        | false => False
      | _ => False)
    | _ => False
  | _ => False

def aSlice (lim : Option (Nat → Bool)) (t : TypeId) (x : AV) (lo hi : Option AV) (s : St) (K : AV → Prop) : Prop :=
  match ((look T t).bind fun i => i.sl).bind (look T) with
  | none => match lo, hi with
    | none, none => aSliceArr T lim t x s K
    | _, _ => False
  | some e => lenOf x fun n =>
    (match hi with
      | none => fun k : Nat → Prop => k n
      | some (.int _ h) => fun k => 0 ≤ h ∧ h ≤ n ∧ k h.toNat
      | _ => fun _ => False) fun h =>
    (match lo with
      | none => fun k : Nat → Prop => k 0
      | some (.int _ l) => fun k => 0 ≤ l ∧ l ≤ h ∧ k l.toNat
      | _ => fun _ => False) fun l =>
    match x with
    | .sl rows => RowsOk e.sz rows ∧ K (.sl ((rows.take h).drop l))
    | .ms k off _ => inLim lim k (match s.hp k with
      | some (.arr sz _ _) => match Nat.beq sz.2 e.sz with
        | true => K (.ms k (off + l) (h - l))
        | false => False
      | some (.own _ _) => match Nat.beq 1 e.sz with
        | true => K (.ms k (off + l) (h - l))
        | false => False
      | _ => False)
    | .nil => K .nil
    | _ => False

def aIndexAddr (lim : Option (Nat → Bool)) (t : TypeId) (x i : AV) (s : St) (K : AV → Prop) : Prop :=
  match look T t with
  | none => False
  | some ty => match i with
    | .int _ i => match x with
      | .sl rows => match ty.sl.bind (look T) with
        | some e => 0 ≤ i ∧ ∃ row, rows[i.toNat]? = some row ∧ match Nat.beq (lenL row) e.sz with | true => K (.er row 0) | false => False
        | none => False
      | .ms k off n => match ty.sl.bind (look T) with
        | some e => inLim lim k (match s.hp k with
          | some (.arr sz _ _) => match Nat.beq sz.2 e.sz with
            | true => 0 ≤ i ∧ i < n ∧ K (.ap k (off + i.toNat) 0)
            | false => False
          | some (.own _ _) => match Nat.beq 1 e.sz with
            | true => 0 ≤ i ∧ i < n ∧ K (.bp k (off + i.toNat))
            | false => False
          | some (.box _) => match Nat.beq 1 e.sz with
            | true => 0 ≤ i ∧ i < n ∧ K (.bp k (off + i.toNat))
            | false => False
          | _ => False)
        | none => False
      | .bp k o => match ty.arr with | some (n, Nat.succ sz) => 0 ≤ i ∧ i < n ∧ K (.bp k (o + i.toNat * Nat.succ sz)) | _ => False
      | .ap k r o => match ty.arr with | some (n, Nat.succ sz) => 0 ≤ i ∧ i < n ∧ K (.ap k r (o + i.toNat * Nat.succ sz)) | _ => False
      | .er row o => match ty.arr with | some (n, Nat.succ sz) => 0 ≤ i ∧ i < n ∧ K (.er row (o + i.toNat * Nat.succ sz)) | _ => False
      | _ => False
    | _ => False

def aFieldAddr (t : TypeId) (x : AV) (f : Nat) (K : AV → Prop) : Prop :=
  match (look T t).bind fun i => nth i.lay f with
  | some (off, Nat.succ _) => match x with
    | .bp k o => K (.bp k (Nat.add o off))
    | .ap k r o => K (.ap k r (Nat.add o off))
    | .er row o => K (.er row (Nat.add o off))
    | _ => False
  | _ => False

/-- the elements that are appended or copied -/
def rowsOf (hp : Nat → Option Blk) (sz : Nat) (y : AV) (K : List (List AV) → Prop) : Prop :=
  match y with
  | .nil => K []
  | .sl rows => RowsOk sz rows ∧ K rows
  | .ms k off n => match hp k with
    | some (.arr sz' rows _) => match Nat.beq sz sz'.2 with
      | false => False
      | true => off + n ≤ rows.length ∧ K ((rows.drop off).take n)
    | _ => False
  | _ => False

/-- the elements of one cell that are appended -/
def cellsOf (hp : Nat → Option Blk) (y : AV) (K : List AV → Prop) : Prop :=
  match y with
  | .nil => K []
  | .sl rows => RowsOk 1 rows ∧ K rows.flatten
  | .ms k off n => match hp k with
    | some (.own _ cs) => off + n ≤ cs.length ∧ forceL ((cs.drop off).take n) K
    | some (.arr sz rows _) => match Nat.beq 1 sz.2 with
      | true => off + n ≤ rows.length ∧ K ((rows.drop off).take n).flatten
      | false => False
    | _ => False
  | _ => False
/-- append to a slice of slices -/
def aAppendO (et : Nat) (by_ : Nat) (x y : AV) (s : St) (K : AV → St → Prop) : Prop :=
  match x with
  | .nil => match y with
    | .nil => K .nil s
    | y => cellsOf s.hp y fun cs => cs ≠ [] ∧ cs.length * by_ ≤ 140737488355328 ∧ cs.length ≤ maxLen ∧ K (.ms s.nx 0 cs.length) (alloc (.own et cs) s)
  | .ms k 0 n => match s.hp k with
    | some (.own et' cs) => match Nat.beq et' et with
      | true => n = cs.length ∧ cellsOf s.hp y fun cs' => (n + cs'.length) * by_ ≤ 140737488355328 ∧ n + cs'.length ≤ maxLen ∧
          forceL (appL cs cs') fun cs2 => K (.ms s.nx 0 (n + cs'.length)) (alloc (.own et cs2) (setB k none s))
      | false => False
    | _ => False
  | _ => False

/-- append -/
def aAppend (t : TypeId) (x y : AV) (s : St) (K : AV → St → Prop) : Prop :=
  match (look T t).bind fun i => i.sl with
  | none => False
  | some et => match look T et with
    | none => False
    | some e => match Nat.ble 1 e.sz with
      | false => False
      | true => match e.sl with
       | some _ => match Nat.beq e.sz 1 with
         | true => aAppendO et e.by_ x y s K
         | false => False
       | none => match x with
        | .nil => match y with
          | .nil => K .nil s
          | .sl rows => rows.length * e.by_ ≤ 140737488355328 ∧ rows.length ≤ maxLen ∧ RowsOk e.sz rows ∧ K (.sl rows) s
          | .ms _ _ n => 0 < n ∧ n * e.by_ ≤ 140737488355328 ∧ n ≤ maxLen ∧ rowsOf s.hp e.sz y fun rows => K (.ms s.nx 0 n) (alloc (.arr (et, e.sz) rows true) s)
          | _ => False
        | .ms k 0 n => match s.hp k with
          | some (.arr sz rows true) => match and (Nat.beq sz.1 et) (Nat.beq sz.2 e.sz) with
            | true => n = rows.length ∧ rowsOf s.hp e.sz y fun rows' =>
                (n + rows'.length) * e.by_ ≤ 140737488355328 ∧ n + rows'.length ≤ maxLen ∧
                K (.ms s.nx 0 (n + rows'.length)) (alloc (.arr (et, e.sz) (rows ++ rows') true) (setB k none s))
            | false => False
          | _ => False
        | _ => False

/-- copy -/
def aCopy (t : TypeId) (x y : AV) (s : St) (K : AV → St → Prop) : Prop :=
  match ((look T t).bind fun i => i.sl).bind (look T) with
  | none => False
  | some e => match Nat.beq e.sz 1 with
    | false => False
    | true => match x with
      | .ms k off n => match s.hp k with
        | some (.arr sz rows true) => match Nat.beq sz.2 1 with
          | false => False
          | true => rowsOf s.hp 1 y fun rows' => off + n ≤ rows.length ∧
            K (.int .i64 (min rows'.length n : Nat)) (setB k (some (.arr sz (rows.take off ++ rows'.take n ++ rows.drop (off + min rows'.length n)) true)) s)
        | _ => False
      | _ => False

def mm2 (mx : Bool) (a b : Int) : Int :=
  match mx with
  | true => if a < b then b else a
  | false => if b < a then b else a
def aMinMax (mx : Bool) (vs : List AV) (K : AV → Prop) : Prop :=
  match vs with
  | [.int k a, .int _ b] => match mx with
    | true => K (.int k (if a < b then b else a))
    | false => K (.int k (if b < a then b else a))
  | [.int k a, .int _ b, .int _ c] => K (.int k (mm2 mx (mm2 mx a b) c))
  | _ => False

def aMakeSlice (t : TypeId) (len cap : AV) (s : St) (K : AV → St → Prop) : Prop :=
  match (look T t).bind fun i => i.sl with
  | none => False
  | some et => match look T et with
    | none => False
    | some e => match len with
      | .int _ n => match cap with
        | .int _ c => match e.sl with
          | some _ => match e.zv with
            | .nil => 0 ≤ n ∧ n ≤ c ∧ c * e.by_ ≤ 140737488355328 ∧ c ≤ maxLen ∧ K (.ms s.nx 0 n.toNat) (alloc (.own et (List.replicate n.toNat .nil)) s)
            | _ => False
          | none => toDs s.hp (cells e.zv) fun row => match and (Nat.ble 1 e.sz) (Nat.beq (lenL row) e.sz) with
          | true => 0 ≤ n ∧ n ≤ c ∧ c * e.by_ ≤ 140737488355328 ∧ c ≤ maxLen ∧ K (.ms s.nx 0 n.toNat) (alloc (.arr (et, e.sz) (List.replicate n.toNat row) true) s)
          | false => False
        | _ => False
      | _ => False

/-- elements of one cell in their places -/
def fillO : List (Nat × AV) → List AV → (List AV → Prop) → Prop
  | [], cs, K => forceL cs K
  | (i, v) :: rest, cs, K => force v fun v => match and (one v) (Nat.ble (i + 1) (lenL cs)) with
    | true => fillO rest (cs.set i v) K
    | false => False

def aBuildSlice (t : TypeId) (n : Nat) (ps : List (Nat × AV)) (s : St) (K : AV → St → Prop) : Prop :=
  match (look T t).bind fun i => i.sl with
  | none => False
  | some et => match look T et with
    | none => False
    | some e => match e.sl with
     | some _ => match e.zv with
       | .nil => match Nat.ble n 65536 with
         | true => fillO ps (List.replicate n .nil) fun cs => K (.ms s.nx 0 n) (alloc (.own et cs) s)
         | false => False
       | _ => False
     | none => toDs s.hp (cells e.zv) fun row => match and (and (Nat.ble 1 e.sz) (Nat.beq (lenL row) e.sz)) (Nat.ble (n * e.sz) 65536) with
      | true => fillR s.hp e.sz ps (List.replicate n row) fun rows => K (.ms s.nx 0 n) (alloc (.arr (et, e.sz) rows true) ⟨s.tm, frz (keysP ps) s.hp, s.nx⟩)
      | false => False

def aIndex (t : TypeId) (x i : AV) (K : AV → Prop) : Prop :=
  match look T t with
  | none => False
  | some ty => match ty.arr with
    | none => False
    | some (n, _) => match ty.ael.bind (look T) with
      | none => False
      | some e => match and (Nat.beq e.sz 1) (not e.ag) with
        | false => match e.ag with
          | false => False
          | true => match x with
            | .agg cs => match i with
              | .int _ i => 0 ≤ i ∧ i < n ∧ rd true e.sz cs (i.toNat * e.sz) K
              | _ => False
            | _ => False
        | true => match x with
          | .agg cs => match i with
            | .int _ i => 0 ≤ i ∧ i < n ∧ ∃ v, cs[i.toNat]? = some v ∧ force v K
            | _ => False
          | _ => False

/-- a byte of a string -/
def aIndexS (t : TypeId) (b : ByteArray) (i : AV) (K : AV → Prop) : Prop :=
  match look T t with
  | none => False
  | some ty => match ty.st with
    | false => False
    | true => match i with
      | .int _ i => 0 ≤ i ∧ ∃ c, b[i.toNat]? = some c ∧ K (.int .u8 c.toNat)
      | _ => False
def aIndexU (t : TypeId) (x i : AV) (K : AV → Prop) : Prop :=
  match x with
  | .str b => aIndexS T t b i K
  | x => aIndex T t x i K

def pickA (t : Bool) (x y : AV) (K : AV → Prop) : Prop :=
  match x with
  | .bool a => match y with
    | .bool b => K (.bool (bif t then a else b))
    | _ => (t = true → K (.bool a)) ∧ (t = false → force y K)
  | x => (t = true → force x K) ∧ (t = false → force y K)

/-- a field of a struct's value -/
def aField (t : TypeId) (x : AV) (f : Nat) (K : AV → Prop) : Prop :=
  match look T t with
  | none => False
  | some i => match i.fo with
    | false => False
    | true => match nth i.lay f with
      | none => False
      | some (off, size) => match nth i.fag f with
        | none => False
        | some ag => match x with
          | .agg cs => rd ag size cs off K
          | _ => False

/-- one operation -/
def aOp (lim : Option (Nat → Bool)) (o : Oper) (s : St) (K : St → Prop) : Prop :=
  match o.op with
  | .move x | .assign x => force (ev gl s x) fun v => K (put o.dst v s)
  | .pick c a b => match ev gl s c with | .bool t => pickA t (ev gl s a) (ev gl s b) fun v => K (put o.dst v s) | _ => False
  | .alloc e => match look T e with
    | some i => match ones (cells i.zv) with | true => K (put o.dst (.bp s.nx 0) (alloc (.box (cells i.zv)) s)) | false => False
    | none => False
  | .box _ x => forceL (cells (ev gl s x)) fun cs => match ones cs with | true => K (put o.dst (.bp s.nx 0) (alloc (.box cs) s)) | false => False
  | .build t ps => match look T t with
    | some i => match layOf i with
      | [] => False
      | _ :: _ => match and i.fo (ones (cells i.zv)) with | true => fillA (layOf i) (evParts gl s ps.toList) (cells i.zv) fun cs => K (put o.dst (.agg cs) s) | false => False
    | none => False
  | .buildSlice t n ps => aBuildSlice T t n (evParts gl s ps.toList) s fun v s' => K (put o.dst v s')
  | .load t a => aLoad T lim t (ev gl s a) s fun v => K (put o.dst v s)
  | .store t a x => force (ev gl s x) fun v => aStore T t (ev gl s a) v s fun s' => K (put o.dst .undef s')
  | .nilCheck x => match ev gl s x with | .bp k i => K (put o.dst (.bp k i) s) | .ap k r i => K (put o.dst (.ap k r i) s) | .er row i => K (put o.dst (.er row i) s) | .fn f c => K (put o.dst (.fn f c) s) | _ => False
  | .binOp op t x y _ => bin (look T t) op (ev gl s x) (ev gl s y) fun v => K (put o.dst v s)
  | .unOp op _ x => un op (ev gl s x) fun v => K (put o.dst v s)
  | .convert _ d x => match (look T d).bind fun i => i.k with
    | some k => match ev gl s x with | .int _ n => K (put o.dst (.int k (k.wrap n)) s) | _ => False
    | none => False
  | .makeFunc (.func f) ⟨[]⟩ cap => forceL (evs gl s cap.toList) fun cs => K (put o.dst (.fn f cs) s)
  | .makeSlice t l c => aMakeSlice T t (ev gl s l) (ev gl s c) s fun v s' => K (put o.dst v s')
  | .slice t x lo hi none => aSlice T lim t (ev gl s x) (lo.map (ev gl s)) (hi.map (ev gl s)) s fun v => K (put o.dst v s)
  | .fieldAddr t x f => aFieldAddr T t (ev gl s x) f fun v => K (put o.dst v s)
  | .indexAddr t x i => aIndexAddr T lim t (ev gl s x) (ev gl s i) s fun v => K (put o.dst v s)
  | .index t x i => aIndexU T t (ev gl s x) (ev gl s i) fun v => K (put o.dst v s)
  | .field t x f => aField T t (ev gl s x) f fun v => K (put o.dst v s)
  | .extract x i => match ev gl s x with | .tup vs => (match nth vs i with | some v => force v fun v => K (put o.dst v s) | none => False) | _ => False
  | .call { callee := .builtin b, args, argTypes } =>
    match b, evs gl s args.toList, argTypes.toList with
    | .len, [x], [t] => (match (look T t).bind fun i => i.sl with | some _ => lenOf x fun n => K (put o.dst (.int .i64 n) s) | none => False)
    | .append, [x, y], [t, u] => (match Nat.beq t u with | true => aAppend T t x y s fun v s' => K (put o.dst v s') | false => False)
    | .copy, [x, y], [t, _] => aCopy T t x y s fun v s' => K (put o.dst v s')
    | .min, vs, _ => aMinMax false vs fun v => K (put o.dst v s)
    | .max, vs, _ => aMinMax true vs fun v => K (put o.dst v s)
    | _, _, _ => False
  | .call { callee := .value f, args, argTypes := _ } => match ev gl s f with
    | .fn f cap => forceL (evs gl s args.toList) fun vs => H (.fn f) (appL vs cap) s fun v s' => K (put o.dst v s')
    | .yl l => forceL (evs gl s args.toList) fun vs => H (.yl l) vs s fun v s' => K (put o.dst v s')
    | _ => False
  | _ => False

/-- the slot that an operation's guard looks at -/
def guardOf (ops : Array Oper) (o : Oper) : Option (Option Nat × Bool) :=
  match o.guard with
  | none => none
  | some (j, want) => some ((nth ops.toList j).bind (·.dst), want)

end
section
variable (T : List (Nat × TyI)) (gl : List (Nat × AV)) (HD H : Tg → List AV → St → (AV → St → Prop) → Prop)

/-- it reads slots alone -/
def pureOp : Op → Bool
  | .move _ | .assign _ | .pick .. | .build .. | .nilCheck _ | .binOp .. | .unOp .. | .convert .. | .makeFunc .. | .fieldAddr .. | .index .. | .field .. | .extract .. => true
  | .call { callee := .builtin .len, .. } | .call { callee := .builtin .min, .. } | .call { callee := .builtin .max, .. } => true
  | _ => false
/-- it reads slots and memory -/
def readOp : Op → Bool
  | .load .. | .slice .. | .indexAddr .. => true
  | _ => false
/-- it makes memory, or writes it -/
def turnsOp : Op → Bool
  | .alloc _ | .box .. | .buildSlice .. | .makeSlice .. | .store .. => true
  | .call { callee := .value _, .. } | .call { callee := .builtin .append, .. } => true
  | _ => false
/-- the block that an address or a slice leads to -/
def keyOf : AV → List Nat
  | .bp k _ => [k]
  | .ap k _ _ => [k]
  | .ms k _ _ => [k]
  | _ => []
/-- the blocks that an operation turns -/
def touch (op : Op) (s : St) : List Nat :=
  match op with
  | .alloc _ | .box .. | .buildSlice .. | .makeSlice .. => [s.nx]
  | .store _ a _ => keyOf (ev gl s a)
  | .call { callee := .builtin .append, args := args, argTypes := _ } => match args.toList with
    | x :: _ => s.nx :: keyOf (ev gl s x)
    | [] => []
  | _ => []
/-- what an operation of an open region turns is nothing that its loads see -/
def young (chk : Bool) (p : Nat → Bool) (op : Op) (s : St) (X : Prop) : Prop :=
  match turnsOp op with
  | false => X
  | true => match chk with
    | false => X
    | true => match (touch gl op s).all fun k => not (p k) with
      | true => X
      | false => False

end
section
variable (T : List (Nat × TyI)) (gl : List (Nat × AV)) (HD H : Tg → List AV → St → (AV → St → Prop) → Prop)

/-- how an operation stands in its region: its place is fixed; its loads are narrowed; what it turns is looked at -/
structure Fl where
  hs : Bool
  lim : Bool
  chk : Bool
  /-- the key that is kept for it (counted from the region's start) -/
  ky : Option Nat := none
  /-- what it is handed is older than the region -/
  old : Bool := false

/-- an allocation at the key that is kept for it -/
def aRes (k : Nat) (o : Oper) (s : St) (K : St → Prop) : Prop :=
  match s.hp k with
  | some .res => match o.guard with
    | none => match o.op with
      | .alloc e => match look T e with
        | some i => match ones (cells i.zv) with
          | true => K (put o.dst (.bp k 0) ⟨s.tm, upd k (some (.box (cells i.zv))) s.hp, s.nx⟩)
          | false => False
        | none => False
      | _ => False
    | some _ => False
  | _ => False

/-- what a call is handed is older than the region -/
def oldA (old : Bool) (p : Nat → Bool) (op : Op) (s : St) (X : Prop) : Prop :=
  match old with
  | false => X
  | true => match op with
    | .call { callee := .value f, args := args, argTypes := _ } => match ev gl s f with
      | .fn _ cap => match and (not (ptrs (appL (evs gl s args.toList) cap))) ((keysAs (appL (evs gl s args.toList) cap)).all p) with
        | true => X
        | false => False
      | _ => False
    | _ => False

/-- the operations of a region -/
def aOps (fl : Oper → Fl) (p : Nat → Bool) (ops : Array Oper) : List Oper → St → (St → Prop) → Prop
  | [], s, K => K s
  | o :: rest, s, K =>
   match (fl o).ky with
   | some k => aRes T k o s fun s' => aOps fl p ops rest s' K
   | none =>
    match guardOf ops o with
    | none => young gl (fl o).chk p o.op s (oldA gl (fl o).old p o.op s (aOp T gl (bif (fl o).hs then H else HD) (bif (fl o).lim then some p else none) o s fun s' => aOps fl p ops rest s' K))
    | some (some d, want) => match s.tm d with
      | .bool b => (b = want → young gl (fl o).chk p o.op s (oldA gl (fl o).old p o.op s (aOp T gl (bif (fl o).hs then H else HD) (bif (fl o).lim then some p else none) o (put (some d) (.bool want) s) fun s' => aOps fl p ops rest s' K))) ∧
          (b = !want → aOps fl p ops rest (put o.dst (.tup []) (put (some d) (.bool !want) s)) K)
      | .tup [] => aOps fl p ops rest (put o.dst (.tup []) s) K
      | _ => False
    | some (none, _) => False

/-- s knows no more than s' -/
structure Le (s s' : St) : Prop where
  tm : ∀ t, s.tm t = .undef ∨ s.tm t = s'.tm t
  hp : ∀ k, s.hp k = none ∨ s.hp k = s'.hp k
  nx : s'.nx ≤ s.nx

def opndOk (N : Nat) : Operand → Bool
  | .tmp t => Nat.blt t N
  | _ => true
/-- the operation names slots below N alone -/
def opOk (P : Program) (N : Nat) (o : Oper) : Bool :=
  and (and (match o.dst with | some d => Nat.blt d N | none => true) (o.op.operands.toList.all (opndOk N))) (match o.op with | .convert src _ _ => (P.underlying src).isSome | _ => true)
def noRange : Code → Bool
  | .seq a b => and (noRange a) (noRange b)
  | .cond _ a b => and (noRange a) (noRange b)
  | .block _ c => noRange c
  | .loop c => noRange c
  | .rangeFunc _ _ _ _ => false
  | _ => true
def codeOk (P : Program) (N : Nat) : Code → Bool
  | .region _ ops _ => ops.toList.all (opOk P N)
  | .seq a b => and (codeOk P N a) (codeOk P N b)
  | .cond c a b => and (opndOk N c) (and (codeOk P N a) (codeOk P N b))
  | .block _ c => codeOk P N c
  | .loop c => codeOk P N c
  | .rangeFunc g ps a b => and (and (opndOk N g) (ps.toList.all fun p => Nat.blt p N)) (and (and (codeOk P N a) (noRange a)) (and (codeOk P N b) (noRange b)))
  | _ => true

/-! Where the order of a region is open. -/

/-- operation x of a region may change places with operation y -/
def indep0 (fl : Oper → Fl) (x y : Oper) : Bool :=
    (or (or (and (or (pureOp x.op) (readOp x.op)) (or (pureOp y.op) (readOp y.op))) (or (and (pureOp x.op) (turnsOp y.op)) (and (turnsOp x.op) (pureOp y.op))))
      (or (and (and (readOp x.op) (fl x).lim) (and (turnsOp y.op) (fl y).chk)) (and (and (turnsOp x.op) (fl x).chk) (and (readOp y.op) (fl y).lim))))
/-- it may change places with an allocation at a kept key -/
def calm (f : Fl) (op : Op) : Bool := or (pureOp op) (or (and (readOp op) f.lim) f.old)
def indep (fl : Oper → Fl) (ops : Array Oper) (x y : Oper) : Bool :=
  and (and (x.apart ops y) (and (not (fl x).hs) (not (fl y).hs)))
    (match (fl x).ky, (fl y).ky with
    | none, none => indep0 fl x y
    | some a, some b => not (Nat.beq a b)
    | some _, none => calm (fl y) y.op
    | none, some _ => calm (fl x) x.op)
/-- which operations come ahead of each one -/
def aheadOf (ops : List Oper) : List Nat :=
  ops.foldl (fun acc o => acc ++ [o.after.toList.foldl (fun m e => match Region.binds .any e with | true => Nat.lor (Nat.lor m (Nat.pow 2 e.on)) ((nth acc e.on).getD 0) | false => m) 0]) []
/-- the operations, each with its place and what is ahead of it -/
def numbered : List Oper → List Nat → Nat → List (Nat × Nat × Oper)
  | o :: rest, m :: ms, i => (i, m, o) :: numbered rest ms (Nat.succ i)
  | _, _, _ => []
/-- what it is ordered after is what stands before it, and what that is after -/
def aheadOk (masks : List Nat) (i m : Nat) (o : Oper) : Bool :=
  and (o.after.toList.all fun e => match Region.binds .any e with | true => Nat.blt e.on i | false => true)
    ((List.range i).all fun k => match Nat.testBit m k with
      | true => o.after.toList.any fun e => match Region.binds .any e with | true => or (Nat.beq e.on k) (and (Nat.blt k e.on) (Nat.testBit ((nth masks e.on).getD 0) k)) | false => false
      | false => true)
/-- each pair of operations is in order or independent -/
def pairsOk (fl : Oper → Fl) (all : Array Oper) (masks : List Nat) : List (Nat × Nat × Oper) → Bool
  | [] => true
  | (i, m, o) :: rest => and (and (aheadOk masks i m o) (rest.all fun p => or (Nat.testBit p.2.1 i) (indep fl all o p.2.2))) (pairsOk fl all masks rest)
/-- two operations of one destination -/
def sameDst (x y : Oper) : Bool := match x.dst, y.dst with | some d, some d' => Nat.beq d d' | none, none => true | _, _ => false
/-- the operations whose order against o is open -/
def partners (l : List (Nat × Nat × Oper)) (o : Oper) : List Oper :=
  l.flatMap fun p => match sameDst p.2.2 o with
    | true => l.filterMap fun q => match or (Nat.beq p.1 q.1) (or (Nat.testBit p.2.1 q.1) (Nat.testBit q.2.1 p.1)) with | true => none | false => some q.2.2
    | false => []
def isAlloc (o : Oper) : Bool := match o.guard with | none => (match o.op with | .alloc _ => true | _ => false) | some _ => false
def isCall (op : Op) : Bool := match op with | .call { callee := .value _, .. } => true | _ => false
/-- the allocations that keep a key -/
def keeps (l : List (Nat × Nat × Oper)) : List Oper := l.filterMap fun q => match and (isAlloc q.2.2) ((partners l q.2.2).any fun r => turnsOp r.op) with | true => some q.2.2 | false => none
def rankOf : List Oper → Nat → Oper → Option Nat
  | [], _, _ => none
  | x :: l, i, o => match sameDst x o with | true => some i | false => rankOf l (Nat.succ i) o
def flags (ops : Array Oper) (o : Oper) : Fl :=
  let l := numbered ops.toList (aheadOf ops.toList) 0
  let ps := partners l o
  { hs := match ps with | [] => true | _ => false
    lim := and (readOp o.op) (ps.any fun q => turnsOp q.op)
    chk := and (turnsOp o.op) (ps.any fun q => readOp q.op)
    ky := match isAlloc o with | true => rankOf (keeps l) 0 o | false => none
    old := match isCall o.op with | true => ps.any fun q => (rankOf (keeps l) 0 q).isSome | false => false }
/-- from the region's start -/
def flagsAt (n : Nat) (ops : Array Oper) (o : Oper) : Fl :=
  match flags ops o with
  | ⟨hs, lim, chk, ky, old⟩ => match ky with
    | none => ⟨hs, lim, chk, none, old⟩
    | some k => ⟨hs, lim, chk, some (Nat.add n k), old⟩
/-- keys are kept -/
def kept : Nat → St → St
  | 0, s => s
  | n + 1, s => kept n ⟨s.tm, upd s.nx (some .res) s.hp, Nat.succ s.nx⟩
def keptN (ops : Array Oper) : Nat := (keeps (numbered ops.toList (aheadOf ops.toList) 0)).length
def drawOk (ops : Array Oper) : Bool := pairsOk (flags ops) ops (aheadOf ops.toList) (numbered ops.toList (aheadOf ops.toList) 0)
/-- in a region of one order -/
def flagsNo : Oper → Fl := fun _ => { hs := true, lim := false, chk := false }
/-- the blocks that the region's loads may see -/
def sees (ops : Array Oper) (s : St) : Nat → Bool := fun k =>
  and (Nat.blt k s.nx) (ops.toList.all fun o => match o.op with
    | .store _ a _ => match (flags ops o).chk with
      | true => not (memN k (keyOf (ev gl s a)))
      | false => true
    | _ => true)

/-- the loop's variables take the values that were yielded -/
def putL : List Tmp → List AV → (Nat → AV) → Nat → AV
  | p :: ps, v :: vs, tm => putL ps vs fun k => bif Nat.beq k p then v else tm k
  | _, _, tm => tm
section
variable (G : FuncId → List AV → St → (List AV → St → (St → Prop) → Prop) → (St → Prop) → Prop)
def awC : Code → St → (Exit → St → Prop) → Prop
  | .skip, s, Q => Q .normal s
  | .region _ ops false, s, Q => aOps T gl HD H flagsNo (fun _ => true) ops ops.toList s (Q .normal)
  | .region _ ops true, s, Q => drawOk ops = true ∧ aOps T gl HD H (flagsAt s.nx ops) (sees gl ops s) ops ops.toList (kept (keptN ops) s) (Q .normal)
  | .seq a b, s, Q => awC a s fun e s' => match e with | .normal => awC b s' Q | e => Q e s'
  | .cond c a b, s, Q => match ev gl s c with | .bool t => (t = true → awC a s Q) ∧ (t = false → awC b s Q) | _ => False
  | .block id c, s, Q => awC c s fun e s' => match e with | .exit i => (match Nat.beq i id with | true => Q .normal s' | false => Q (.exit i) s') | e => Q e s'
  | .loop c, s, Q => ∃ (I : St → Prop) (μ : St → Nat), (∃ s0, Le s0 s ∧ I s0) ∧ ∀ s', I s' → awC c s' fun e s'' => match e with | .normal => ∃ s0, Le s0 s'' ∧ I s0 ∧ μ s0 < μ s' | e => Q e s''
  | .rangeFunc g ps assign body, s, Q => match ev gl s g with
    | .fn f cap => G f cap s
        (fun args st K => match Nat.beq (lenL args) (ps.toList.length) with
          | true => awC assign ⟨putL ps.toList args s.tm, st.hp, st.nx⟩ fun e s1 => match e with
            | .normal => awC body s1 fun e s2 => match e with
              | .normal => K ⟨st.tm, s2.hp, s2.nx⟩
              | _ => False
            | _ => False
          | false => False)
        (fun s' => Q .normal ⟨s.tm, s'.hp, s'.nx⟩)
    | _ => False
  | .exit id, s, Q => Q (.exit id) s
  | .ret, s, Q => Q .ret s
  | _, _, _ => False

end
end
end Ab
