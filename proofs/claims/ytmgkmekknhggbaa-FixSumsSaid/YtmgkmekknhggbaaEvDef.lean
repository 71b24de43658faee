/-
  An evaluator of the program's code over named blocks of memory and symbolic numbers, made for the kernel: what it computes, and no claim yet. No condition.
-/
import Derived.Orders
import Derived.Below
import Derived.KernelRfl
import Derived.Laws.CopyRow
import Derived.Laws.Entries
import Derived.Laws.Rows
import Derived.Laws.MakeOwn
import Derived.LoopN
set_option linter.unusedVariables false
set_option linter.unusedSimpArgs false
namespace Go.Proofs.Ytmgkmekknhggbaa.Ev
open Go Go.RowKit
noncomputable section

/-- How names of blocks stand for addresses: the block, the cells ahead of the first one told, the room of a row that grows. -/
structure Nm where
  blk : Nat → Nat
  base : Nat → Nat
  cap : Nat → Nat
/-- From here on a room's number is not itself: mark + j is the room of the named row less j. -/
def mark : Nat := 1267650600228229401496703205376
def capOf (g : Nm) (k c : Nat) : Nat := bif Nat.ble mark c then g.cap k - (c - mark) else c
def renA (g : Nm) (a : Addr) : Addr := ⟨g.blk a.block, g.base a.block + a.off, a.spot⟩
def ren0 (g : Nm) : Value → Value
  | .pointer (some a) => .pointer (some (renA g a))
  | .slice (some a) l c => .slice (some (renA g a)) l (capOf g a.block c)
  | .map (some r) => .map (some (g.blk r))
  | v => v
def ren1 (g : Nm) : Value → Value
  | .agg cs => .agg (cs.map (ren0 g))
  | .func f x c => .func f (x.map (ren0 g)) (c.map (ren0 g))
  | v => ren0 g v
def ren (g : Nm) : Value → Value
  | .tuple vs => .tuple (vs.map (ren1 g))
  | v => ren1 g v

/-- No name in it, and one cell. -/
def leafG : Value → Bool
  | .bool _ | .int _ _ | .float _ _ | .complex _ _ _ | .string _ | .pointer none | .slice none _ _ | .map none | .chan _ | .nilFunc | .nilIface => true
  | _ => false
/-- One cell. -/
def leaf : Value → Bool
  | .bool _ | .int _ _ | .float _ _ | .complex _ _ _ | .string _ | .pointer _ | .slice _ _ _ | .map _ | .chan _ | .nilFunc | .nilIface => true
  | _ => false
def allB {α : Type} (f : α → Bool) : List α → Bool
  | [] => true
  | x :: xs => bif f x then allB f xs else false
def gnd1 : Value → Bool
  | .agg ⟨cs⟩ => allB leafG cs
  | .func _ ⟨x⟩ ⟨c⟩ => bif allB leafG x then allB leafG c else false
  | v => leafG v
def gnd : Value → Bool
  | .tuple ⟨vs⟩ => allB gnd1 vs
  | v => gnd1 v
def notTuple : Value → Bool
  | .tuple _ => false
  | _ => true

inductive Blk where
  | cells (cs : List Value) (ty : TypeId)
  | vec (cs : List Value) (ty : TypeId) (size : Nat)
  | ro (cs : List Value)
  | map (lay : List (Option IntKind)) (agg : Bool) (ek : Option IntKind) (es : List (Value × Value × Nat)) (clock : Nat)
abbrev Heap := Nat → Option Blk
abbrev Tm := Nat → Option Value

structure Hint where
  g : Option Bool := none
  k : Option Bool := none
  v : Option Value := none
  o : Option Value := none
  c : Option (List Value) := none
  e : Option (List (Value × Value × Nat)) := none
  p : Bool := false

structure Res where
  v : Value
  us : List (Nat × Option Blk)
  rs : List Nat
  ob : List Prop
def val (v : Value) : Option Res := some ⟨v, [], [], []⟩

def forceV {α : Type} : Value → (Value → α) → α
  | .bool b, K => K (.bool b)
  | .int k n, K => K (.int k n)
  | .agg ⟨cs⟩, K => K (.agg ⟨cs⟩)
  | .tuple ⟨cs⟩, K => K (.tuple ⟨cs⟩)
  | .pointer a, K => K (.pointer a)
  | .slice a l c, K => K (.slice a l c)
  | v, K => K v
def forceL {α : Type} : List Value → (List Value → α) → α
  | [], K => K []
  | v :: l, K => forceV v fun v => forceL l fun l => K (v :: l)

def ev (T : Tm) : Operand → Option Value
  | .tmp t => T t
  | .const v => bif gnd v then some v else none
  | .func f => some (.func (.func f) #[] #[])
  | .global _ => none
def evs (ρ : Operand → Option Value) : List Operand → Option (List Value)
  | [] => some []
  | x :: xs => match ρ x with
    | some v => match evs ρ xs with
      | some vs => some (v :: vs)
      | none => none
    | none => none

/-- Of a run that asks for the program and for nothing else. -/
def pureRun {α : Type} (P : Program) : Sem α → Option α
  | .pure a => some a
  | .program k => pureRun P (k P)
  | _ => none
/-! ### Values of nothing but numbers and bools, and their equality -/
def leafEq : Value → Value → Bool
  | .int _ a, .int _ b => a == b
  | .bool a, .bool b => a == b
  | _, _ => false
def cellsEq : List Value → List Value → Bool
  | [], [] => true
  | [x], [y] => leafEq x y
  | x :: xs, y :: ys => leafEq x y && cellsEq xs ys
  | _, _ => false
def keyEq : Value → Value → Bool
  | .agg ⟨xs⟩, .agg ⟨ys⟩ => cellsEq xs ys
  | x, y => leafEq x y
def intKindEq : IntKind → IntKind → Bool
  | .i8, .i8 | .i16, .i16 | .i32, .i32 | .i64, .i64 | .u8, .u8 | .u16, .u16 | .u32, .u32 | .u64, .u64 => true
  | _, _ => false
/-- Are cells of such kinds? (none: bool) -/
def fitsC : List (Option IntKind) → List Value → Bool
  | [], [] => true
  | none :: l, .bool _ :: cs => fitsC l cs
  | some k :: l, .int k' _ :: cs => bif intKindEq k k' then fitsC l cs else false
  | _, _ => false
def layFields (lay : TypeId → Option (List (Option IntKind))) : List Field → Nat → Option (List (Option IntKind))
  | [], _ => some []
  | f :: fs, off =>
    bif Nat.beq f.offset off then
    bif (f.name == "_") then none else
    match lay f.type with
    | some l => match layFields lay fs (off + l.length) with
      | some r => some (l ++ r)
      | none => none
    | none => none
    else none
def replL {α : Type} (l : List α) : Nat → List α
  | 0 => []
  | n + 1 => l ++ replL l n
/-- The kinds of a type's cells, where there are nothing but numbers and bools. -/
def layout (P : Program) : Nat → TypeId → Option (List (Option IntKind))
  | 0, _ => none
  | d + 1, t =>
    match P.underlying t, P.info? t with
    | some .bool, _ => some [none]
    | some (.int k), _ => some [some k]
    | some (.struct fs), some i => bif P.stoodInHeld t then none else
      match layFields (layout P d) fs.toList 0 with
      | some l => bif Nat.beq l.length i.size then some l else none
      | none => none
    | some (.array n e), some i => match layout P d e with
      | some l => bif Nat.beq (replL l n).length i.size then match P.info? e with
          | some j => bif Nat.beq j.size l.length then some (replL l n) else none
          | none => none
        else none
      | none => none
    | _, _ => none
/-- Is a value of a type of that kind? -/
def flatV (P : Program) (t : TypeId) (v : Value) : Bool :=
  match layout P 9 t, aggT' P t with
  | some l, some true => (match v with | .agg ⟨cs⟩ => fitsC l cs | _ => false)
  | some l, some false => fitsC l [v]
  | _, _ => false
where aggT' (P : Program) (ty : TypeId) : Option Bool :=
  match P.underlying ty with
  | some (.struct _) | some (.array _ _) => some true
  | some _ => some false
  | none => none
/-! ### Maps whose keys are nothing but numbers and bools, and whose values are numbers, or bools -/
abbrev Ent := Value × Value × Nat
def intV : Value → Int
  | .int _ n => n
  | _ => 0
def boolV : Value → Bool
  | .bool b => b
  | _ => false
def mgetI (key : Value) : List Ent → Int
  | [] => 0
  | e :: es => bif keyEq key e.1 then intV e.2.1 else mgetI key es
def mgetB (key : Value) : List Ent → Bool
  | [] => false
  | e :: es => bif keyEq key e.1 then boolV e.2.1 else mgetB key es
def mhas (key : Value) : List Ent → Bool
  | [] => false
  | e :: es => bif keyEq key e.1 then true else mhas key es
def mput (key v : Value) (clock : Nat) : List Ent → List Ent
  | [] => [(key, v, clock)]
  | e :: es => bif keyEq key e.1 then (e.1, v, e.2.2) :: es else e :: mput key v clock es
def mens (key z : Value) (clock : Nat) : List Ent → List Ent
  | [] => [(key, z, clock)]
  | e :: es => bif keyEq key e.1 then e :: es else e :: mens key z clock es
def mstamp (key : Value) (clock : Nat) : List Ent → Nat
  | [] => clock
  | e :: es => bif keyEq key e.1 then e.2.2 else mstamp key clock es
def mborn (n : Int) : List Ent → Bool
  | [] => false
  | e :: es => bif ((e.2.2 : Int) == n) then true else mborn n es
def mset (n : Int) (v : Value) : List Ent → List Ent
  | [] => []
  | e :: es => bif ((e.2.2 : Int) == n) then (e.1, v, e.2.2) :: es else e :: mset n v es
def keyFits (lay : List (Option IntKind)) (agg : Bool) (v : Value) : Bool :=
  match v with
  | .agg ⟨cs⟩ => bif agg then fitsC lay cs else false
  | v => bif agg then false else fitsC lay [v]
def layEq : List (Option IntKind) → List (Option IntKind) → Bool
  | [], [] => true
  | none :: l, none :: m => layEq l m
  | some k :: l, some k' :: m => bif intKindEq k k' then layEq l m else false
  | _, _ => false
def boolEq : Bool → Bool → Bool
  | true, b => b
  | false, true => false
  | false, false => true
def keyTypeIs (P : Program) (kt : TypeId) (lay : List (Option IntKind)) (agg : Bool) : Bool :=
  match layout P 9 kt, flatV.aggT' P kt with
  | some l, some a => bif layEq l lay then boolEq a agg else false
  | _, _ => false
/-- The kind of a map's values. -/
def ekOf (P : Program) (et : TypeId) : Option (Option IntKind) :=
  match P.underlying et, P.info? et with
  | some (.int k), some i => match i.zero with
    | some (.int k' n) => bif intKindEq k k' then bif n == 0 then some (some k) else none else none
    | _ => none
  | some .bool, some i => match i.zero with
    | some (.bool b) => bif b then none else some none
    | _ => none
  | _, _ => none
def ekIs (P : Program) (et : TypeId) (ek : Option IntKind) : Bool :=
  match ekOf P et with
  | some e => layEq [e] [ek]
  | none => false
def mapTypeIs (P : Program) (t : TypeId) (lay : List (Option IntKind)) (agg : Bool) (ek : Option IntKind) : Bool :=
  match P.underlying t with
  | some (.map kt et) => bif keyTypeIs P kt lay agg then ekIs P et ek else false
  | _ => false
def scal (ek : Option IntKind) (key : Value) (es : List Ent) : Value :=
  match ek with
  | none => .bool (mgetB key es)
  | some k => .int k (mgetI key es)
def zeroOf : Option IntKind → Value
  | none => .bool false
  | some k => .int k 0
def lookVal (P : Program) (t : TypeId) (key : Value) : Blk → Option Value
  | .map lay agg ek es _ => bif mapTypeIs P t lay agg ek then bif keyFits lay agg key then some (scal ek key es) else none else none
  | _ => none
def lookupOp (P : Program) (t : TypeId) (x key : Option Value) (ok : Bool) (H : Heap) : Option Res :=
  match x, key with
  | some (.map (some k)), some key => match H k with
    | some b => match lookVal P t key b with
      | some v => match ok, b with
        | false, _ => val v
        | true, .map _ _ _ es _ => some ⟨.tuple ⟨[v, .bool (mhas key es)]⟩, [], [k], []⟩
        | true, _ => none
      | none => none
    | none => none
  | _, _ => none
def makeMapOp (P : Program) (t : TypeId) (r : Option Operand) (nm : Nat) : Option Res :=
  match r, P.underlying t with
  | none, some (.map kt et) => match layout P 9 kt, flatV.aggT' P kt, ekOf P et with
    | some l, some a, some ek => some ⟨.map (some nm), [(nm, some (.map l a ek [] 0))], [], []⟩
    | _, _, _ => none
  | _, _ => none
def mapUpdateOp (P : Program) (h : Hint) (t : TypeId) (x key v : Option Value) (H : Heap) : Option Res :=
  match x, key, v with
  | some (.map (some k)), some key, some v => match H k with
    | some (.map lay agg ek es c) =>
      bif mapTypeIs P t lay agg ek then bif keyFits lay agg key then bif fitsC [ek] [v] then
        match h.e with
        | some es' => some ⟨undef, [(k, some (.map lay agg ek es' (bif mhas key es then c else c + 1)))], [k], [mput key v c es = es']⟩
        | none => some ⟨undef, [(k, some (.map lay agg ek (mput key v c es) (bif mhas key es then c else c + 1)))], [k], []⟩
      else none else none else none
    | _ => none
  | _, _, _ => none
def mapEntryOp (P : Program) (t : TypeId) (x key : Option Value) (H : Heap) : Option Res :=
  match x, key with
  | some (.map (some k)), some key => match H k with
    | some (.map lay agg ek es c) =>
      bif mapTypeIs P t lay agg ek then bif keyFits lay agg key then
        some ⟨.tuple ⟨[scal ek key es, .int .i64 (mstamp key c es : Nat)]⟩, [(k, some (.map lay agg ek (mens key (zeroOf ek) c es) (bif mhas key es then c else c + 1)))], [k], []⟩
      else none else none
    | _ => none
  | _, _ => none
def entryStoreOp (P : Program) (h : Hint) (x stamp v : Option Value) (H : Heap) : Option Res :=
  match x, stamp, v with
  | some (.map (some k)), some (.int .i64 n), some v => match H k with
    | some (.map lay agg ek es c) =>
      bif fitsC [ek] [v] then
        match h.e with
        | some es' => some ⟨undef, [(k, some (.map lay agg ek es' c))], [k], [mborn n es = true, mset n v es = es']⟩
        | none => match mborn n es with
          | true => some ⟨undef, [(k, some (.map lay agg ek (mset n v es) c))], [k], []⟩
          | false => none
      else none
    | _ => none
  | _, _, _ => none
def isSel : Op → Bool
  | .select _ _ => true
  | _ => false
def pureOp (P : Program) (h : Hint) (o : Oper) (ρ : Operand → Option Value) : Option Res :=
  bif isSel o.op then none else
  match evs ρ o.op.operands.toList with
  | none => none
  | some vs =>
    bif allB gnd vs then
      match h.o with
      | some v => bif gnd v then some ⟨v, [], [], [pureRun P (execOp (fun x => (ρ x).getD undef) o) = some (.value v)]⟩ else none
      | none =>
        match pureRun P (execOp (fun x => (ρ x).getD undef) o) with
        | some (.value v) => bif gnd v then val v else none
        | _ => none
    else none

def sub : List Value → Nat → Nat → Option (List Value)
  | _, 0, 0 => some []
  | v :: cs, 0, n + 1 => match sub cs 0 n with
    | some vs => some (v :: vs)
    | none => none
  | _ :: cs, o + 1, n => sub cs o n
  | [], _, _ => none
def lset : List Value → Nat → List Value → Option (List Value)
  | cs, 0, [] => some cs
  | _ :: cs, 0, v :: vs => match lset cs 0 vs with
    | some l => some (v :: l)
    | none => none
  | c :: cs, o + 1, vs => match lset cs o vs with
    | some l => some (c :: l)
    | none => none
  | [], _, _ => none
def Blk.row : Blk → Option (List Value)
  | .cells cs _ => some cs
  | .vec cs _ _ => some cs
  | .ro cs => some cs
  | .map _ _ _ _ _ => none
def Blk.put (cs' : List Value) : Blk → Option Blk
  | .cells _ ty => some (.cells cs' ty)
  | .vec _ ty s => some (.vec cs' ty s)
  | _ => none
def cellsOf : Value → Option (List Value)
  | .agg ⟨cs⟩ => some cs
  | .tuple _ => none
  | v => bif leaf v then some [v] else none
def sizeOfT (P : Program) (ty : TypeId) : Option Nat :=
  match P.info? ty with
  | some i => some i.size
  | none => none
/-- Is it a struct or an array? -/
def aggT (P : Program) (ty : TypeId) : Option Bool :=
  match P.underlying ty with
  | some (.struct _) | some (.array _ _) => some true
  | some _ => some false
  | none => none
/-- What is read: a part of a row. -/
def readPart (P : Program) (ty : TypeId) (cs : List Value) (off : Nat) : Option Value :=
  match aggT P ty, sizeOfT P ty with
  | some true, some n => match sub cs off n with
    | some vs => some (.agg ⟨vs⟩)
    | none => none
  | some false, _ => match sub cs off 1 with
    | some [v] => bif leaf v then some v else none
    | _ => none
  | _, _ => none
def loadOp (P : Program) (h : Hint) (ty : TypeId) (x : Option Value) (H : Heap) : Option Res :=
  match x with
  | some (.pointer (some ⟨k, off, none⟩)) =>
    match H k with
    | some b => match b.row with
      | some cs => match h.o with
        | some v => bif notTuple v then some ⟨v, [], [k], [readPart P ty cs off = some v]⟩ else none
        | none => match readPart P ty cs off with
          | some v => some ⟨v, [], [k], []⟩
          | none => none
      | none => none
    | none => none
  | _ => none
def storeOp (P : Program) (h : Hint) (ty : TypeId) (x y : Option Value) (H : Heap) : Option Res :=
  match x, y with
  | some (.pointer (some ⟨k, off, none⟩)), some y =>
    match H k, cellsOf y, sizeOfT P ty with
    | some b, some vs, some n =>
      bif Nat.beq vs.length n then
      bif allB leaf vs then
      match b.row with
      | some cs => match h.c with
        | some cs' => match b.put cs' with
          | some b' => some ⟨undef, [(k, some b')], [k], [lset cs off vs = some cs']⟩
          | none => none
        | none => match lset cs off vs with
          | some l => forceL l fun l => match b.put l with
            | some b' => some ⟨undef, [(k, some b')], [k], []⟩
            | none => none
          | none => none
      | none => none
      else none
      else none
    | _, _, _ => none
  | _, _ => none
def ptr (k : Nat) : Value := .pointer (some ⟨k, 0, none⟩)
def allocOp (P : Program) (ty : TypeId) (nm : Nat) : Option Res :=
  match P.info? ty with
  | some i => match i.zero with
    | some z => bif gnd1 z then match cellsOf z with
      | some cs => some ⟨ptr nm, [(nm, some (.cells cs ty))], [], []⟩
      | none => none
      else none
    | none => none
  | none => none
def boxOp (ty : TypeId) (x : Option Value) (nm : Nat) : Option Res :=
  match x with
  | some v => match cellsOf v with
    | some cs => some ⟨ptr nm, [(nm, some (.cells cs ty))], [], []⟩
    | none => none
  | none => none
def fieldAddrOp (P : Program) (s : TypeId) (x : Option Value) (f : Nat) : Option Res :=
  match x, P.underlying s with
  | some (.pointer (some ⟨k, off, none⟩)), some (.struct fields) =>
    match fields.toList[f]? with
    | some fl => match sizeOfT P fl.type with
      | some (_ + 1) => val (.pointer (some ⟨k, off + fl.offset, none⟩))
      | _ => none
    | none => none
  | _, _ => none
/-- Is an index within? As an obligation, or reckoned. -/
def within (h : Hint) (i : Int) (n : Nat) (r : List Prop → Option Res) : Option Res :=
  bif h.p then r [0 ≤ i ∧ i < (n : Int)]
  else match decide (0 ≤ i), decide (i < (n : Int)) with
    | true, true => r []
    | _, _ => none
def indexAddrOp (P : Program) (h : Hint) (t : TypeId) (x ix : Option Value) : Option Res :=
  match x, ix, P.underlying t with
  | some (.pointer (some ⟨k, off, none⟩)), some (.int _ i), some (.array n e) =>
    match sizeOfT P e with
    | some s => within h i n fun ob => some ⟨.pointer (some ⟨k, off + i.toNat * s, none⟩), [], [], ob⟩
    | none => none
  | some (.slice (some ⟨k, off, none⟩) n _), some (.int _ i), some (.slice e) =>
    match sizeOfT P e with
    | some s => within h i n fun ob => some ⟨.pointer (some ⟨k, off + i.toNat * s, none⟩), [], [], ob⟩
    | none => none
  | _, _, _ => none
def fieldOp (P : Program) (s : TypeId) (x : Option Value) (f : Nat) : Option Res :=
  match x, P.underlying s with
  | some (.agg ⟨cs⟩), some (.struct fields) =>
    match fields.toList[f]? with
    | some fl => match readPart P fl.type cs fl.offset with
      | some v => val v
      | none => none
    | none => none
  | _, _ => none
def indexOp (P : Program) (h : Hint) (t : TypeId) (x ix : Option Value) : Option Res :=
  match x, ix, P.underlying t with
  | some (.agg ⟨cs⟩), some (.int _ i), some (.array n e) =>
    match sizeOfT P e with
    | some s => within h i n fun ob => match h.o with
      | some v => bif notTuple v then some ⟨v, [], [], (readPart P e cs (i.toNat * s) = some v) :: ob⟩ else none
      | none => match readPart P e cs (i.toNat * s) with
        | some v => some ⟨v, [], [], ob⟩
        | none => none
    | none => none
  | _, _, _ => none
def nth : List Value → Nat → Option Value
  | [], _ => none
  | v :: _, 0 => some v
  | _ :: l, n + 1 => nth l n
def extractOp (x : Option Value) (i : Nat) : Option Res :=
  match x with
  | some (.tuple ⟨vs⟩) => match nth vs i with
    | some v => bif notTuple v then val v else none
    | none => none
  | _ => none
def fillL (place : Nat → Option (Nat × Nat)) : List Value → List (Nat × Option Value) → Option (List Value)
  | cs, [] => some cs
  | cs, (i, some v) :: rest => match place i, cellsOf v with
    | some (off, size), some vs => bif Nat.beq vs.length size then match lset cs off vs with
        | some cs' => fillL place cs' rest
        | none => none
      else none
    | _, _ => none
  | _, (_, none) :: _ => none
def fieldPlaceL (P : Program) (fields : List Field) (i : Nat) : Option (Nat × Nat) :=
  match fields[i]? with
  | some f => match sizeOfT P f.type with
    | some n => some (f.offset, n)
    | none => none
  | none => none
def partsL (ρ : Operand → Option Value) (ps : Array (Nat × Operand)) : List (Nat × Option Value) := ps.toList.map fun (i, x) => (i, ρ x)
def zeroCells (P : Program) (t : TypeId) : Option (List Value) :=
  match P.info? t with
  | some i => match i.zero with
    | some z => bif gnd1 z then cellsOf z else none
    | none => none
  | none => none
def sizesKnown (P : Program) (fields : List Field) : Bool := allB (fun f => (sizeOfT P f.type).isSome) fields
def buildOp (P : Program) (t : TypeId) (parts : List (Nat × Option Value)) : Option Res :=
  match zeroCells P t, P.underlying t with
  | some zs, some (.struct fields) =>
    bif sizesKnown P fields.toList then
    match fillL (fieldPlaceL P fields.toList) zs parts with
    | some cs => forceL cs fun cs => val (.agg ⟨cs⟩)
    | none => none
    else none
  | some zs, some (.array _ e) =>
    match sizeOfT P e with
    | some s => match fillL (fun i => some (i * s, s)) zs parts with
      | some cs => forceL cs fun cs => val (.agg ⟨cs⟩)
      | none => none
    | none => none
  | _, _ => none
def repl (zs : List Value) : Nat → List Value
  | 0 => []
  | n + 1 => zs ++ repl zs n
def buildSliceOp (P : Program) (t : TypeId) (len : Nat) (parts : List (Nat × Option Value)) (nm : Nat) : Option Res :=
  match P.underlying t with
  | some (.slice e) =>
    match sizeOfT P e, zeroCells P e with
    | some (s + 1), some zs =>
      bif Nat.beq zs.length (s + 1) then
      bif Nat.ble (len * (s + 1)) 16777216 then
      match fillL (fun i => some (i * (s + 1), s + 1)) (repl zs len) parts with
      | some cs => forceL cs fun cs => some ⟨.slice (some ⟨nm, 0, none⟩) len len, [(nm, some (.cells cs e))], [], []⟩
      | none => none
      else none
      else none
    | _, _ => none
  | _ => none
/-- A row just made, as one that may grow. -/
def vecOf (nm size : Nat) : Option Res → Option Res
  | some ⟨.slice (some ⟨k, 0, none⟩) n c, [(j, some (.cells cs e))], [], []⟩ =>
    bif Nat.beq k nm then bif Nat.beq j nm then bif Nat.beq n c then bif Nat.beq cs.length (n * size) then bif Nat.ble n 16777216 then bif allB leafG cs then
      some ⟨.slice (some ⟨nm, 0, none⟩) n mark, [(nm, some (.vec cs e size))], [], []⟩ else none else none else none else none else none else none
  | _ => none
def buildVecOp (P : Program) (t : TypeId) (nm : Nat) (r : Option Res) : Option Res :=
  match P.underlying t with
  | some (.slice e) => match sizeOfT P e with
    | some s => vecOf nm s r
    | none => none
  | _ => none
/-- A new row of zeros, so long. -/
def MkOK (l c : Int) (bytes : Nat) (zs cs : List Value) : Prop := l = c ∧ 0 ≤ l ∧ l ≤ 9223372036854775807 ∧ (bytes : Int) * l ≤ 281474976710656 ∧ cs = repl zs l.toNat
def makeOp (P : Program) (h : Hint) (t : TypeId) (l c : Option Value) (nm : Nat) : Option Res :=
  match P.underlying t, l, c with
  | some (.slice e), some (.int _ l), some (.int _ c) =>
    match P.info? e, zeroCells P e with
    | some i, some zs => bif Nat.beq zs.length i.size then
      match h.c with
      | some cs => some ⟨.slice (some ⟨nm, 0, none⟩) l.toNat l.toNat, [(nm, some (.cells cs e))], [], [MkOK l c i.bytes zs cs]⟩
      | none => match l, c with
        | .ofNat n, .ofNat m => bif Nat.beq n m then bif Nat.ble n 16777216 then bif Nat.ble (i.bytes * n) 281474976710656 then
            forceL (repl zs n) fun cs => some ⟨.slice (some ⟨nm, 0, none⟩) n n, [(nm, some (.cells cs e))], [], []⟩ else none else none else none
        | _, _ => none
      else none
    | _, _ => none
  | _, _, _ => none
/-- A bound of a slice: absent, or a number. -/
def boundOf : Option (Option Value) → Nat → Option Nat
  | none, d => some d
  | some (some (.int _ (.ofNat l))), _ => some l
  | _, _ => none
def sliceOp (P : Program) (t : TypeId) (x : Option Value) (lo hi : Option (Option Value)) (H : Heap) : Option Res :=
  match P.underlying t, x with
  | some (.slice e), some (.slice (some ⟨k, off, none⟩) n c) =>
    match sizeOfT P e, boundOf lo 0, boundOf hi n with
    | some size, some l, some h =>
      bif Nat.ble l h then bif Nat.ble h n then
        match Nat.ble mark c with
        | true => match H k with
          | some (.vec cs _ s) => bif Nat.beq s size then bif Nat.ble 1 size then bif Nat.ble ((c - mark + n) * size) cs.length then
              bif (bif Nat.beq l 0 then true else Nat.ble (l + 1) n) then some ⟨.slice (some ⟨k, off + l * size, none⟩) (h - l) (c + l), [], [k], []⟩ else none else none else none else none
          | _ => none
        | false => bif Nat.ble n c then
            match Nat.beq c l with
            | true => some ⟨.slice (some ⟨k, off, none⟩) (h - l) (c - l), [], [], []⟩
            | false => some ⟨.slice (some ⟨k, off + l * size, none⟩) (h - l) (c - l), [], [], []⟩
          else none
      else none else none
    | _, _, _ => none
  | some (.slice e), some (.slice none 0 0) =>
    match sizeOfT P e, boundOf lo 0, boundOf hi 0 with
    | some _, some 0, some 0 => val (.slice none 0 0)
    | _, _, _ => none
  | _, _ => none
/-- A row that append may make longer: how many elements, their cells, the block. -/
def ownOf (size : Nat) (e : TypeId) (H : Heap) : Value → Option (Nat × List Value × Option Nat)
  | .slice none 0 0 => some (0, [], none)
  | .slice (some ⟨k, 0, none⟩) n c => match H k with
    | some (.vec cs ty s) => bif Nat.beq s size then bif Nat.beq ty e then bif Nat.beq c mark then bif Nat.ble (n * size) cs.length then some (n, cs.take (n * size), some k) else none else none else none else none
    | some (.cells cs ty) => bif Nat.beq ty e then bif Nat.beq cs.length (c * size) then bif Nat.ble n c then bif Nat.ble c 16777216 then some (n, cs.take (n * size), some k) else none else none else none else none
    | _ => none
  | _ => none
/-- What is appended. -/
def srcOf (size : Nat) (H : Heap) : Value → Option (Nat × List Value × Nat)
  | .slice (some ⟨k, off, none⟩) m _ => match H k with
    | some b => match b.row with
      | some cs => match sub cs off (m * size) with
        | some vs => some (m, vs, k)
        | none => none
      | none => none
    | none => none
  | _ => none
def keptOf : Option Nat → List (Nat × Option Blk)
  | some k => [(k, none)]
  | none => []
def readsOf : Option Nat → List Nat
  | some k => [k]
  | none => []
def appendOp (P : Program) (ts : List TypeId) (s x : Option Value) (H : Heap) (nm : Nat) : Option Res :=
  match ts, s, x with
  | [t, t'], some s, some x => bif Nat.beq t t' then
    match P.underlying t with
    | some (.slice e) => match P.info? e with
      | some i => match i.zero with
        | some z => bif Nat.beq z.cells.size i.size then bif Nat.ble 1 i.size then
          match ownOf i.size e H s, srcOf i.size H x with
          | some (n, xs, ko), some (m, vs, kx) =>
            bif allB leaf vs then bif Nat.ble 1 m then bif Nat.ble (n + m) 16777216 then bif Nat.ble ((n + m) * i.bytes) 140737488355328 then
              forceL (xs ++ vs) fun cs => some ⟨.slice (some ⟨nm, 0, none⟩) (n + m) mark, keptOf ko ++ [(nm, some (.vec cs e i.size))], kx :: readsOf ko, []⟩
            else none else none else none else none
          | _, _ => none
          else none else none
        | none => none
      | none => none
    | _ => none
    else none
  | _, _, _ => none
/-- append, where the cells that come of it are told. -/
def AppOK (own : Option Blk) (n c size bytes m : Nat) (csx : List Value) (offx : Nat) (cs' : List Value) : Prop :=
  ∃ xs vs, sub csx offx (m * size) = some vs ∧ allB leaf vs = true ∧ 1 ≤ m ∧ n + m ≤ 16777216 ∧ (n + m) * bytes ≤ 140737488355328 ∧ cs' = xs ++ vs ∧
    (match own with
      | none => n = 0 ∧ c = 0 ∧ xs = []
      | some (.vec cs _ _) => c = mark ∧ n * size ≤ cs.length ∧ xs = cs.take (n * size)
      | some (.cells cs _) => cs.length = c * size ∧ n ≤ c ∧ c ≤ 16777216 ∧ xs = cs.take (n * size)
      | _ => False)
def appendS (P : Program) (cs' : List Value) (ts : List TypeId) (s x : Option Value) (H : Heap) (nm : Nat) : Option Res :=
  match ts, s, x with
  | [t, t'], some s, some (.slice (some ⟨kx, offx, none⟩) m _) => bif Nat.beq t t' then
    match P.underlying t with
    | some (.slice e) => match P.info? e with
      | some i => match i.zero with
        | some z => bif Nat.beq z.cells.size i.size then bif Nat.ble 1 i.size then
          match H kx with
          | some bx => match bx.row with
            | some csx => match s with
              | .slice none n c => some ⟨.slice (some ⟨nm, 0, none⟩) (n + m) mark, [(nm, some (.vec cs' e i.size))], [kx], [AppOK none n c i.size i.bytes m csx offx cs']⟩
              | .slice (some ⟨k, 0, none⟩) n c => match H k with
                | some (.vec cs ty s) => bif Nat.beq s i.size then bif Nat.beq ty e then some ⟨.slice (some ⟨nm, 0, none⟩) (n + m) mark, [(k, none), (nm, some (.vec cs' e i.size))], [kx, k], [AppOK (some (.vec cs ty s)) n c i.size i.bytes m csx offx cs']⟩ else none else none
                | some (.cells cs ty) => bif Nat.beq ty e then some ⟨.slice (some ⟨nm, 0, none⟩) (n + m) mark, [(k, none), (nm, some (.vec cs' e i.size))], [kx, k], [AppOK (some (.cells cs ty)) n c i.size i.bytes m csx offx cs']⟩ else none
                | _ => none
              | _ => none
            | none => none
          | none => none
          else none else none
        | none => none
      | none => none
    | _ => none
    else none
  | _, _, _ => none
/-- append of nothing: what it is put to stays. -/
def ZeroOK (m : Nat) (s : Value) (b : Option Blk) : Prop := m = 0 ∧
  (match s with
    | .slice none n c => n = 0 ∧ c = 0
    | .slice (some ⟨_, 0, none⟩) n c => (match b with
      | some (.vec cs _ size) => c = mark ∧ 1 ≤ size ∧ n * size ≤ cs.length
      | some (.cells cs _) => n ≤ c ∧ c ≤ 16777216
      | _ => False)
    | _ => False)
def appendZ (P : Program) (ts : List TypeId) (s x : Option Value) (H : Heap) : Option Res :=
  match ts, s, x with
  | [t, t'], some s, some (.slice _ m _) => bif Nat.beq t t' then
    match P.underlying t with
    | some (.slice e) => match sizeOfT P e with
      | some _ => match s with
        | .slice none n c => some ⟨.slice none n c, [], [], [ZeroOK m (.slice none n c) none]⟩
        | .slice (some ⟨k, 0, none⟩) n c => some ⟨.slice (some ⟨k, 0, none⟩) n c, [], [k], [ZeroOK m (.slice (some ⟨k, 0, none⟩) n c) (H k)]⟩
        | _ => none
      | none => none
    | _ => none
    else none
  | _, _, _ => none
/-- A slice expression, where what comes of it is told. -/
def SlOK (size k off n c : Nat) (lo hi : Option Int) (b : Option Blk) (u : Value) : Prop :=
  ∃ l h : Nat, lo.getD 0 = (l : Int) ∧ hi.getD (n : Int) = (h : Int) ∧ l ≤ h ∧ h ≤ n ∧
    ((mark ≤ c ∧ (∃ cs ty, b = some (.vec cs ty size) ∧ 1 ≤ size ∧ (c - mark + n) * size ≤ cs.length) ∧ (l = 0 ∨ l + 1 ≤ n) ∧ u = .slice (some ⟨k, off + l * size, none⟩) (h - l) (c + l))
      ∨ (c < mark ∧ n ≤ c ∧ ((c = l ∧ u = .slice (some ⟨k, off, none⟩) (h - l) (c - l)) ∨ (c ≠ l ∧ u = .slice (some ⟨k, off + l * size, none⟩) (h - l) (c - l)))))
def boundI : Option (Option Value) → Option (Option Int)
  | none => some none
  | some (some (.int _ i)) => some (some i)
  | _ => none
def sliceS (P : Program) (u : Value) (t : TypeId) (x : Option Value) (lo hi : Option (Option Value)) (H : Heap) : Option Res :=
  match P.underlying t, x with
  | some (.slice e), some (.slice (some ⟨k, off, none⟩) n c) =>
    match sizeOfT P e, boundI lo, boundI hi with
    | some size, some l, some h => some ⟨u, [], [k], [SlOK size k off n c l h (H k) u]⟩
    | _, _, _ => none
  | _, _ => none
/-- The end of a row, as a slice of nothing: where it lies is not told (it gets a name of its own). -/
def EndOK (size n c : Nat) (lo hi : Option Int) (b : Option Blk) : Prop := c = mark ∧ lo.getD 0 = (n : Int) ∧ hi.getD (n : Int) = (n : Int) ∧ ∃ cs ty, b = some (.vec cs ty size) ∧ 1 ≤ size ∧ n * size ≤ cs.length
def sliceE (P : Program) (t : TypeId) (x : Option Value) (lo hi : Option (Option Value)) (H : Heap) (nm : Nat) : Option Res :=
  match P.underlying t, x with
  | some (.slice e), some (.slice (some ⟨k, _, none⟩) n c) =>
    match sizeOfT P e, boundI lo, boundI hi with
    | some size, some l, some h => some ⟨.slice (some ⟨nm, 0, none⟩) 0 mark, [], [k], [EndOK size n c l h (H k)]⟩
    | _, _, _ => none
  | _, _ => none
def makeFuncOp (fn : Fn) (first captured : Option (List Value)) : Option Res :=
  match first, captured with
  | some x, some c => bif allB leaf x then bif allB leaf c then val (.func fn ⟨x⟩ ⟨c⟩) else none else none
  | _, _ => none
def fold2 (f : Int → Int → Int) (k : IntKind) : Int → List Value → Option Value
  | x, [] => some (.int k x)
  | x, .int _ y :: l => fold2 f k (f x y) l
  | _, _ => none
def maxI (x y : Int) : Int := if y > x then y else x
def minI (x y : Int) : Int := if y < x then y else x
def goLen (n : Nat) : Value := .int .i64 (n : Int)
/-- A copy: what was read goes over the cells of the first. -/
def CopyOK (m n size off : Nat) (csx : List Value) (offx : Nat) (cs cs' : List Value) : Prop := ∃ vs, sub csx offx (Nat.min m n * size) = some vs ∧ allB leaf vs = true ∧ lset cs off vs = some cs'
def copyS (P : Program) (cs' : List Value) (ts : List TypeId) (s x : Option Value) (H : Heap) : Option Res :=
  match ts, s, x with
  | [t, _], some (.slice (some ⟨k, off, none⟩) n _), some (.slice (some ⟨kx, offx, none⟩) m _) =>
    match P.underlying t with
    | some (.slice e) => match sizeOfT P e with
      | some size => match H k, H kx with
        | some b, some bx => match b.row, bx.row with
          | some cs, some csx => match b.put cs' with
            | some b' => some ⟨goLen (Nat.min m n), [(k, some b')], [k, kx], [CopyOK m n size off csx offx cs cs']⟩
            | none => none
          | _, _ => none
        | _, _ => none
      | none => none
    | _ => none
  | _, _, _ => none

abbrev Sums := FuncId → Option (List Value → Heap → Nat → Option Res)

def callOp (sums : Sums) (fv : Option Value) (args : Option (List Value)) (H : Heap) (nm : Nat) : Option Res :=
  match fv, args with
  | some (.func (.func f) ⟨x⟩ ⟨c⟩), some as => match sums f with
    | some s => bif allB leaf x then bif allB leaf c then s (x ++ (as ++ c)) H nm else none else none
    | none => none
  | _, _ => none
def builtinOp (P : Program) (b : Builtin) (argTypes : Array TypeId) (args : Option (List Value)) : Option Res :=
  match b, args with
  | .len, some [x] => match argTypes.toList with
    | t :: _ => match P.underlying t, x with
      | some (.slice _), .slice _ n _ => val (goLen n)
      | some (.array n _), _ => val (goLen n)
      | _, _ => none
    | [] => none
  | .max, some (.int k x :: l) => match fold2 maxI k x l with
    | some v => val v
    | none => none
  | .min, some (.int k x :: l) => match fold2 minI k x l with
    | some v => val v
    | none => none
  | _, _ => none

def eqOp (P : Program) (neg : Bool) (t : TypeId) (x y : Option Value) : Option Res :=
  match x, y with
  | some x, some y => bif flatV P t x then bif flatV P t y then bif P.eqGuardType P.depth t then none else
      (match neg with | true => val (.bool (!keyEq x y)) | false => val (.bool (keyEq x y)))
    else none else none
  | _, _ => none
def binA (P : Program) (h : Hint) (o : Oper) (op : BinOp) (t : TypeId) (x y : Option Value) (ρ : Operand → Option Value) : Option Res :=
  match op, x with
  | .eql, some (.agg _) => eqOp P false t x y
  | .neq, some (.agg _) => eqOp P true t x y
  | .rem, some (.int k a) => match h.p, y with
    | true, some (.int k' b) => bif intKindEq k k' then some ⟨.int k (Int.tmod a b), [], [], [b ≠ 0]⟩ else none
    | _, _ => pureOp P h o ρ
  | _, _ => pureOp P h o ρ
def eff (P : Program) (sums : Sums) (h : Hint) (o : Oper) (ρ : Operand → Option Value) (H : Heap) (nm : Nat) : Option Res :=
  match o.op with
  | .move x => match ρ x with
    | some v => val v
    | none => none
  | .assign x => match ρ x with
    | some v => val v
    | none => none
  | .pick c a b => match ρ c, ρ a, ρ b with
    | some (.bool t), some v, some u => match h.k with
      | some d => some ⟨cond d v u, [], [], [t = d]⟩
      | none => match t with
        | true => val v
        | false => val u
    | _, _, _ => none
  | .alloc ty => allocOp P ty nm
  | .box ty x => boxOp ty (ρ x) nm
  | .load ty x => loadOp P h ty (ρ x) H
  | .store ty x y => storeOp P h ty (ρ x) (ρ y) H
  | .nilCheck x => match ρ x with
    | some (.pointer (some a)) => val (.pointer (some a))
    | _ => none
  | .fieldAddr s x f => fieldAddrOp P s (ρ x) f
  | .indexAddr t x ix => indexAddrOp P h t (ρ x) (ρ ix)
  | .field s x f => fieldOp P s (ρ x) f
  | .index t x ix => indexOp P h t (ρ x) (ρ ix)
  | .extract x i => extractOp (ρ x) i
  | .build t ps => buildOp P t (partsL ρ ps)
  | .buildSlice t n ps => match h.p with
    | true => buildVecOp P t nm (buildSliceOp P t n (partsL ρ ps) nm)
    | false => buildSliceOp P t n (partsL ρ ps) nm
  | .makeFunc fn x c => makeFuncOp fn (evs ρ x.toList) (evs ρ c.toList)
  | .binOp op t x y yt => binA P h o op t (ρ x) (ρ y) ρ
  | .lookup t x key ok => lookupOp P t (ρ x) (ρ key) ok H
  | .makeMap t r => makeMapOp P t r nm
  | .mapUpdate t x key v => mapUpdateOp P h t (ρ x) (ρ key) (ρ v) H
  | .insert t x key v => mapUpdateOp P h t (ρ x) (ρ key) (ρ v) H
  | .mapEntry t x key => mapEntryOp P t (ρ x) (ρ key) H
  | .entryStore t x stamp v => entryStoreOp P h (ρ x) (ρ stamp) (ρ v) H
  | .call { callee := .value f, args := as, argTypes := _ } => callOp sums (ρ f) (evs ρ as.toList) H nm
  | .call { callee := .builtin b, args := as, argTypes := ts } => match b, as.toList with
    | .len, [x] => match ρ x with
      | some (.map (some k)) => match ts.toList, H k with
        | t :: _, some (.map _ _ _ es _) => match P.underlying t with
          | some (.map _ _) => some ⟨goLen es.length, [], [k], []⟩
          | _ => none
        | _, _ => none
      | _ => builtinOp P b ts (evs ρ as.toList)
    | .append, [x, y] => match h.p with
      | true => appendZ P ts.toList (ρ x) (ρ y) H
      | false => match h.c with
        | some cs' => appendS P cs' ts.toList (ρ x) (ρ y) H nm
        | none => appendOp P ts.toList (ρ x) (ρ y) H nm
    | .copy, [x, y] => match h.c with
      | some cs' => copyS P cs' ts.toList (ρ x) (ρ y) H
      | none => none
    | _, _ => builtinOp P b ts (evs ρ as.toList)
  | .slice t x lo hi none => match h.o with
    | some u => sliceS P u t (ρ x) (lo.map ρ) (hi.map ρ) H
    | none => match h.p with
      | true => sliceE P t (ρ x) (lo.map ρ) (hi.map ρ) H nm
      | false => sliceOp P t (ρ x) (lo.map ρ) (hi.map ρ) H
  | .makeSlice t l c => makeOp P h t (ρ l) (ρ c) nm
  | _ => pureOp P h o ρ

def upd {α : Type} (f : Nat → α) (k : Nat) (v : α) : Nat → α := fun i => bif Nat.beq i k then v else f i
def putT (T : Tm) (d : Option Tmp) (v : Value) : Tm :=
  match d with
  | some d => upd T d (some v)
  | none => T
def apU : List (Nat × Option Blk) → Heap → Heap
  | [], H => H
  | (k, b) :: us, H => apU us (upd H k b)

structure Foot where
  us : List (Nat × Option Blk)
  rs : List Nat
  ob : List Prop
  lr : Option (Nat × (Blk → Option Value) × Value)
  bv : Option Bool
def Foot.ws (f : Foot) : List Nat := f.us.map (·.1)
/-- A region half run. -/
structure RS where
  T : Tm
  H : Heap
  L : Nat → Option Foot

/-- Is the operation wanted, and by what? -/
def wantedA (h : Hint) (ops : List Oper) (o : Oper) (T : Tm) : Option (Bool × List Prop) :=
  match o.guard with
  | none => some (true, [])
  | some (j, want) =>
    match ops[j]? with
    | some og => match og.dst with
      | some t => match T t with
        | some (.bool b) => match h.g with
          | some d => some (d, [(b == want) = d])
          | none => match b == want with
            | true => some (true, [])
            | false => some (false, [])
        | some (.tuple _) => some (false, [])
        | _ => none
      | none => none
    | none => none

def estep (P : Program) (sums : Sums) (hint : Nat → Hint) (ops : List Oper) (base i : Nat) (o : Oper) (T : Tm) (H : Heap) : Option Res :=
  match wantedA (hint i) ops o T with
  | some (true, ob) => match eff P sums (hint i) o (ev T) H (base + 4 * i) with
    | some r => match (hint i).v with
      | none => some ⟨r.v, r.us, r.rs, ob ++ r.ob⟩
      | some v => some ⟨v, r.us, r.rs, (r.v = v) :: (ob ++ r.ob)⟩
    | none => none
  | some (false, ob) => some ⟨undef, [], [], ob⟩
  | none => none
/-- What an operation has looked up in a map. -/
def lrOf (P : Program) (o : Oper) (ρ : Operand → Option Value) (H : Heap) : Option (Nat × (Blk → Option Value) × Value) :=
  match o.op with
  | .lookup t x key false => match ρ x, ρ key with
    | some (.map (some k)), some key => match H k with
      | some b => match lookVal P t key b with
        | some v => some (k, lookVal P t key, v)
        | none => none
      | none => none
    | _, _ => none
  | _ => none
def lrStep (P : Program) (h : Hint) (ops : List Oper) (o : Oper) (T : Tm) (H : Heap) : Option (Nat × (Blk → Option Value) × Value) :=
  match wantedA h ops o T with
  | some (true, _) => lrOf P o (ev T) H
  | _ => none
/-- The bool that an operation yields, ahead of what a hint makes of it. -/
def bvStep (P : Program) (sums : Sums) (hint : Nat → Hint) (ops : List Oper) (base i : Nat) (o : Oper) (T : Tm) (H : Heap) : Option Bool :=
  match wantedA (hint i) ops o T with
  | some (true, _) => match eff P sums (hint i) o (ev T) H (base + 4 * i) with
    | some ⟨.bool b, _, _, _⟩ => some b
    | _ => none
  | _ => none
def dstOK (o : Oper) (n : Nat) : Bool :=
  match o.dst with
  | some d => Nat.blt d n
  | none => true
def astep (P : Program) (sums : Sums) (hint : Nat → Hint) (ops : List Oper) (n base : Nat) (i : Nat) (S : RS) : Option RS :=
  match ops[i]? with
  | none => none
  | some o => match estep P sums hint ops base i o S.T S.H with
    | none => none
    | some r =>
      bif dstOK o n then
        forceV r.v fun v => some ⟨putT S.T o.dst v, apU r.us S.H, upd S.L i (some ⟨r.us, r.rs, r.ob, lrStep P (hint i) ops o S.T S.H, bvStep P sums hint ops base i o S.T S.H⟩)⟩
      else none
def runOps (P : Program) (sums : Sums) (hint : Nat → Hint) (ops : List Oper) (n base : Nat) : List Nat → RS → Option RS
  | [], S => some S
  | i :: l, S => match astep P sums hint ops n base i S with
    | some S' => runOps P sums hint ops n base l S'
    | none => none

/-! ### What may stand in any order -/
def disj (a b : List Nat) : Bool := allB (fun x => allB (fun y => !Nat.beq x y) b) a
def indep (ops : List Oper) (L : Nat → Option Foot) (i j : Nat) : Bool :=
  match ops[i]?, ops[j]?, L i, L j with
  | some x, some y, some f, some g =>
    bif Oper.apart ops.toArray x y then bif disj f.ws g.ws then bif disj f.ws g.rs then bif disj g.ws f.rs then
      (match g.lr with | some (k, _) => disj f.ws [k] | none => true) else false else false else false else false
  | _, _, _, _ => false
/-- What one operation has looked up is told the same behind the other one's writes. -/
def lrObs : List (Nat × Option Blk) → Nat → (Blk → Option Value) → Value → List Prop → List Prop
  | [], _, _, _, ob => ob
  | (k', b) :: us, k, f, v, ob => bif Nat.beq k' k then
      (match b with
        | some b => (f b = some v) :: lrObs us k f v ob
        | none => [False])
    else lrObs us k f v ob
def indepObs (L : Nat → Option Foot) (i j : Nat) (ob : List Prop) : List Prop :=
  match L i, L j with
  | some f, some g => match f.lr with
    | some (k, h, v) => lrObs g.us k h v ob
    | none => ob
  | _, _ => ob
/-- For each operation all that must come ahead of it, as bits. -/
def befAcc : List Oper → List Nat → List Nat
  | [], acc => acc
  | o :: l, acc => befAcc l (acc ++ [o.after.toList.foldl (fun s e => bif Region.binds .any e then s ||| (2 ^ e.on ||| acc.getD e.on 0) else s) 0])
def upTo : Nat → List Nat
  | 0 => []
  | n + 1 => upTo n ++ [n]
def lowerB (ops : List Oper) : Bool := allB (fun i => match ops[i]? with | some o => allB (fun e => bif Region.binds .any e then Nat.blt e.on i else true) o.after.toList | none => false) (upTo ops.length)
def freeB (ops : List Oper) (L : Nat → Option Foot) : Bool :=
  let bef := befAcc ops []
  bif lowerB ops then
  allB (fun j => allB (fun i => bif (bef.getD j 0).testBit i then true else indep ops L i j) (upTo j)) (upTo ops.length)
  else false

def rowObs (bef : List Nat) (L : Nat → Option Foot) (j : Nat) : List Nat → List Prop → List Prop
  | [], ob => ob
  | i :: is, ob => bif (bef.getD j 0).testBit i then rowObs bef L j is ob else rowObs bef L j is (indepObs L i j ob)
def pairObs (bef : List Nat) (L : Nat → Option Foot) : List Nat → List Prop → List Prop
  | [], ob => ob
  | j :: js, ob => pairObs bef L js (rowObs bef L j (upTo j) ob)
def obsOf (L : Nat → Option Foot) : List Nat → List Prop → List Prop
  | [], ob => ob
  | i :: l, ob => match L i with
    | some f => obsOf L l (f.ob ++ ob)
    | none => obsOf L l ob
structure St where
  T : Tm
  H : Heap
  nx : Nat
  c : Nat
  ob : List Prop
def runRegion (P : Program) (sums : Sums) (hint : Nat → Hint) (n : Nat) (ops : List Oper) (draw : Bool) (S : St) : Option St :=
  let len := ops.length
  match runOps P sums hint ops n S.nx (upTo len) ⟨S.T, S.H, fun _ => none⟩ with
  | none => none
  | some R =>
    bif (bif draw then freeB ops R.L else true) then
      some ⟨R.T, R.H, S.nx + 4 * len, S.c + 1, bif draw then pairObs (befAcc ops []) R.L (upTo len) (obsOf R.L (upTo len) S.ob) else obsOf R.L (upTo len) S.ob⟩
    else none

/-! ### Code -/
inductive Ctl where
  | code (c : Code)
  | inBlock (id : Nat)
  | again (c : Code) (n : Nat)
  | mark (J : Act → World → Prop)
inductive W where
  | go
  | b (t : Bool)
  | stop
  | fork
  | forkG (rid : Nat) (js : List Nat)
  | at (rid : Nat)
inductive Out where
  | fork (t : Bool) (x y : Out) (ob : List Prop)
  | fail
  | atK (k : List Ctl) (S : St)
  | ret (S : St)
structure Ctx where
  P : Program
  sums : Sums
  n : Nat
  hint : Nat → Nat → Nat → Hint
def outOf (id : Nat) : List Ctl → Option (List Ctl)
  | [] => none
  | .inBlock j :: k => bif Nat.beq j id then some k else outOf id k
  | _ :: k => outOf id k
def forkAt (id : Nat) : List W → Option (List Nat)
  | .forkG r js :: _ => bif Nat.beq r id then some js else none
  | _ => none
def stopAt (id : Nat) : List W → Bool
  | .at r :: _ => Nat.beq r id
  | _ => false
def tailW : List W → List W
  | _ :: ws => ws
  | [] => []
def setHint (h : Nat → Hint) (j : Nat) (b : Bool) : Nat → Hint := fun i => bif Nat.beq i j then { h i with v := some (.bool b) } else h i
def setAll (h : Nat → Hint) : List Nat → (Nat → Hint)
  | [] => h
  | j :: js => setHint (setAll h js) j true
/-- A region, forked at the bools that some of its operations yield; what follows is behind K. -/
def forkRegion (P : Program) (sums : Sums) (n : Nat) (ops : List Oper) (draw : Bool) (S : St) (K : St → Out) : List Nat → (Nat → Hint) → List Prop → Out
  | [], h, ob => match runRegion P sums h n ops draw { S with ob := ob } with
    | some S' => K S'
    | none => .fail
  | j :: js, h, ob => match runOps P sums (setAll h (j :: js)) ops n S.nx (upTo ops.length) ⟨S.T, S.H, fun _ => none⟩ with
    | some R => match R.L j with
      | some f => match f.bv with
        | some b => .fork b (forkRegion P sums n ops draw S K js (setHint h j true) []) (forkRegion P sums n ops draw S K js (setHint h j false) []) ob
        | none => forkRegion P sums n ops draw S K js h ob
      | none => .fail
    | none => .fail
def run (C : Ctx) : Nat → List W → List Ctl → St → Out
  | 0, _, _, _ => .fail
  | m + 1, ws, k, S =>
    match k with
    | [] => .ret S
    | .code .skip :: k => run C m ws k S
    | .code (.seq x y) :: k => run C m ws (.code x :: .code y :: k) S
    | .code (.region id ops draw) :: k =>
      match stopAt id ws with
      | true => .atK (.code (.region id ops draw) :: k) S
      | false =>
      match forkAt id ws with
      | some js => forkRegion C.P C.sums C.n ops.toList draw S (run C m (tailW ws) k) js (C.hint S.c id) S.ob
      | none => match runRegion C.P C.sums (C.hint S.c id) C.n ops.toList draw S with
        | some S' => run C m ws k S'
        | none => .fail
    | .code (.cond c x y) :: k =>
      match ev S.T c with
      | some (.bool t) =>
        match ws with
        | .b d :: ws => run C m ws (.code (bif d then x else y) :: k) { S with ob := (t = d) :: S.ob }
        | .stop :: _ => .atK (.code (.cond c x y) :: k) S
        | .fork :: ws => .fork t (run C m ws (.code x :: k) { S with ob := [] }) (run C m ws (.code y :: k) { S with ob := [] }) S.ob
        | .go :: ws => match t with
          | true => run C m ws (.code x :: k) S
          | false => run C m ws (.code y :: k) S
        | .forkG r js :: ws => match t with
          | true => run C m (.forkG r js :: ws) (.code x :: k) S
          | false => run C m (.forkG r js :: ws) (.code y :: k) S
        | .at r :: ws => match t with
          | true => run C m (.at r :: ws) (.code x :: k) S
          | false => run C m (.at r :: ws) (.code y :: k) S
        | [] => match t with
          | true => run C m [] (.code x :: k) S
          | false => run C m [] (.code y :: k) S
      | _ => .fail
    | .code (.block id c) :: k => run C m ws (.code c :: .inBlock id :: k) S
    | .inBlock _ :: k => run C m ws k S
    | .code (.loop c) :: k =>
      match ws with
      | .stop :: _ => .atK (.code (.loop c) :: k) S
      | .go :: ws => run C m ws (.code c :: .again c 100000 :: k) S
      | .b _ :: _ => .fail
      | .fork :: _ => .fail
      | .forkG r js :: ws => run C m (.forkG r js :: ws) (.code c :: .again c 100000 :: k) S
      | .at r :: ws => run C m (.at r :: ws) (.code c :: .again c 100000 :: k) S
      | [] => run C m [] (.code c :: .again c 100000 :: k) S
    | .again c (j + 1) :: k => run C m ws (.code c :: .again c j :: k) S
    | .again _ 0 :: _ => .fail
    | .code (.exit id) :: k => match outOf id k with
      | some k' => run C m ws k' S
      | none => .fail
    | .code .ret :: _ => .ret S
    | .mark J :: k => .atK (.mark J :: k) S
    | _ => .fail

/-! ### What a function hands back -/
def resOne (P : Program) (S : St) : ResultVar → Option Value
  | .tmp t => match S.T t with
    | some v => bif notTuple v then some v else none
    | none => none
  | .cell p ty => match S.T p with
    | some (.pointer (some ⟨k, off, none⟩)) => match S.H k with
      | some b => match b.row with
        | some cs => readPart P ty cs off
        | none => none
      | none => none
    | _ => none
def resAll (P : Program) (S : St) : List ResultVar → Option (List Value)
  | [] => some []
  | r :: rs => match resOne P S r with
    | some v => forceV v fun v => match resAll P S rs with
      | some vs => some (v :: vs)
      | none => none
    | none => none
def resOf (P : Program) (fn : Func) (S : St) : Option Value :=
  match resAll P S fn.results.toList with
  | some [v] => some v
  | some vs => some (.tuple ⟨vs⟩)
  | none => none
/-- A frame's temporaries at the start. -/
def startT (args : List Value) (n : Nat) : Tm := fun i => match nth args i with
  | some v => some v
  | none => bif Nat.blt i n then some undef else none
/-- One of two values. -/
def kEq : IntKind → IntKind → Bool
  | .i8, .i8 | .i16, .i16 | .i32, .i32 | .i64, .i64 | .u8, .u8 | .u16, .u16 | .u32, .u32 | .u64, .u64 => true
  | _, _ => false
def merge0 (t : Bool) : Value → Value → Option Value
  | .int k x, .int k' y => bif kEq k k' then some (.int k (bif t then x else y)) else none
  | .bool x, .bool y => some (.bool (bif t then x else y))
  | _, _ => none
def mergeL (f : Value → Value → Option Value) : List Value → List Value → Option (List Value)
  | [], [] => some []
  | x :: xs, y :: ys => match f x y with
    | some v => match mergeL f xs ys with
      | some vs => some (v :: vs)
      | none => none
    | none => none
  | _, _ => none
def merge1 (t : Bool) : Value → Value → Option Value
  | .agg ⟨xs⟩, .agg ⟨ys⟩ => match mergeL (merge0 t) xs ys with
    | some vs => some (.agg ⟨vs⟩)
    | none => none
  | x, y => merge0 t x y
def mergeV (t : Bool) : Value → Value → Option Value
  | .tuple ⟨xs⟩, .tuple ⟨ys⟩ => match mergeL (merge1 t) xs ys with
    | some vs => some (.tuple ⟨vs⟩)
    | none => none
  | x, y => merge1 t x y
def impl (t : Bool) : List Prop → List Prop → List Prop
  | [], ob => ob
  | p :: ps, ob => (t = true → p) :: impl t ps ob
/-- The value that comes back, and what is owed. -/
def outVal (P : Program) (fn : Func) : Out → Option (Value × List Prop)
  | .ret S => match resOf P fn S with
    | some v => some (v, S.ob)
    | none => none
  | .fork t x y ob => match outVal P fn x, outVal P fn y with
    | some (v, p), some (u, q) => match mergeV t v u with
      | some z => some (z, impl t p (impl (!t) q ob))
      | none => none
    | _, _ => none
  | _ => none
/-- A call of a function with nothing but numbers (or structs, arrays of them) that hands back such: run. -/
def callRun (P : Program) (sums : Sums) (hint : Nat → Nat → Nat → Hint) (ws : List W) (f : FuncId) (args : List Value) : Option Res :=
  match P.funcs.toList[f]? with
  | some fn => match fn.body with
    | some c =>
      bif allB gnd args then
      match run ⟨P, sums, args.length + (fn.ntmps - args.length), hint⟩ 1000000 ws [.code c] ⟨startT args (args.length + (fn.ntmps - args.length)), fun _ => none, 0, 0, []⟩ with
      | o => match outVal P fn o with
        | some (v, ob) => bif gnd v then some ⟨v, [], [], ob⟩ else none
        | none => none
      else none
    | none => none
  | none => none
/-- Summaries that are given, and for all other functions their runs, so deep. -/
def auto (P : Program) (given : Sums) (ways : FuncId → List W) (hints : FuncId → Nat → Nat → Nat → Hint) : Nat → Sums
  | 0 => given
  | d + 1 => fun f => match given f with
    | some s => some s
    | none => match P.funcs.toList[f]? with
      | some fn => match fn.body with
        | some _ => some fun args _ _ => callRun P (auto P given ways hints d) (hints f) (ways f) f args
        | none => none
      | none => none
end
end Go.Proofs.Ytmgkmekknhggbaa.Ev
