/- An executor of loaded Go code over abstract values: definitions. -/
import Derived.WalkKit
import Derived.Test.YtccfojgceohciaaFuT
namespace Go.Fx
open Go

/-! ### rows -/
inductive RTy where
  | int (k : IntKind)
  | bool
  | str
  | ints (k : IntKind)
  | spec | spr | fix | item | live | ape | opt | task | aim
  deriving DecidableEq

@[reducible] def RTy.carrier : RTy → Type
  | .int _ => Int
  | .bool => Bool
  | .str => List UInt8
  | .ints _ => List Int
  | .spec => Fu.Spec
  | .spr => Fu.Spr
  | .fix => Fu.Fix
  | .item => Fu.Item
  | .live => Fu.Live
  | .ape => Fu.Ape
  | .opt => Fu.Opt
  | .task => Fu.Task
  | .aim => Fu.Aim

def RTy.size : RTy → Nat
  | .int _ => 1
  | .bool => 1
  | .str => 1
  | .ints _ => 1
  | .spec => 6
  | .spr => 3
  | .fix => 7
  | .item => 2
  | .live => 17
  | .ape => 5
  | .opt => 3
  | .task => 22
  | .aim => 8

def RTy.isAgg : RTy → Bool
  | .int _ => false
  | .bool => false
  | .str => false
  | .ints _ => false
  | _ => true

def RTy.dflt : (r : RTy) → r.carrier
  | .int _ => (0 : Int)
  | .bool => false
  | .str => ([] : List UInt8)
  | .ints _ => ([] : List Int)
  | .spec => (default : Fu.Spec)
  | .spr => (default : Fu.Spr)
  | .fix => (default : Fu.Fix)
  | .item => (default : Fu.Item)
  | .live => (default : Fu.Live)
  | .ape => (default : Fu.Ape)
  | .opt => (default : Fu.Opt)
  | .task => (default : Fu.Task)
  | .aim => (default : Fu.Aim)

/-! ### abstract values -/
inductive AV where
  | any
  | lit (k : IntKind) (n : Int)
  | int (k : IntKind) (n : Int)
  | blit (b : Bool)
  | bool (b : Bool)
  | str (s : List UInt8)
  | nilp
  | ptr (b off : Nat)
  | rptr (b : Nat) (r : RTy) (i : Int) (off : Nat)
  | pv (cs : List AV)
  | nils
  | own (b : Nat)
  | slc (b off n sz : Nat)
  | view (r : RTy) (xs : List r.carrier)
  | lv (n : Nat) (cs : List AV)
  | fn (f : Fn) (first captured : List AV)
  | nilfn
  | iface (t : TypeId) (v : AV)
  | niliface
  | map (b : Nat)
  | nilmap
  | agg (cs : List AV)
  | tup (vs : List AV)

def AV.asIntK (k : IntKind) : AV → Option Int
  | .lit k' n => if k' = k then some n else none
  | .int k' n => if k' = k then some n else none
  | _ => none
def AV.i (a : AV) : Option Int := a.asIntK .i64
def AV.b : AV → Option Bool
  | .blit b => some b
  | .bool b => some b
  | _ => none
def AV.s : AV → Option (List UInt8)
  | .str l => some l
  | _ => none
def AV.cells : AV → List AV
  | .agg cs => cs
  | v => [v]
def AV.oneCell : AV → Bool
  | .agg _ => false
  | .tup _ => false
  | .any => false
  | _ => true

/-! ### encodings of rows -/
def encSpec (s : Fu.Spec) : List AV := [.int .i64 s.C, .int .i64 s.T, .int .i64 s.Max, .int .i64 s.M, .int .i64 s.K, .int .i64 s.E]
def encJob (j : Fu.Job) : List AV := [.bool j.On, .int .i64 j.J, .int .i64 j.Rel, .int .i64 j.Due, .bool j.Mand, .int .i64 j.C, .int .i64 j.D, .int .i64 j.Ran]
def encLive (x : Fu.Live) : List AV := encSpec x.S ++ encJob x.J ++ [.int .i64 x.P, .int .i64 x.At, .int .i64 x.N]
def encFix (x : Fu.Fix) : List AV := encSpec x.S ++ [.int .i64 x.P]
def encSpr (x : Fu.Spr) : List AV := [.int .i64 x.U, .int .i64 x.Min, .int .i64 x.E]
def encItem (x : Fu.Item) : List AV := [.int .i64 x.Key, .int .i64 x.ID]
def encApe (x : Fu.Ape) : List AV := [.int .i64 x.ID, .int .i64 x.Due, .int .i64 x.C, .int .i64 x.V, .int .i64 x.Ran]
def encOpt (x : Fu.Opt) : List AV := [.int .i64 x.Far, .int .i64 x.Due, .int .i64 x.ID]
def encRing (x : Fu.Ring) : List AV := [.int .i64 x.N, .int .u64 x.B]
def encTask (x : Fu.Task) : List AV :=
  [.int .i64 x.ID] ++ encSpec x.S ++ [.int .i64 x.P, .int .i64 x.Next, .int .i64 x.At, .int .i64 x.N] ++ encJob x.J ++ encRing x.H ++ [.bool x.Kept]
def encAim (x : Fu.Aim) : List AV := [.int .i64 x.ID] ++ encSpec x.S ++ [.int .i64 x.P]

def RTy.enc : (r : RTy) → r.carrier → List AV
  | .int k, (x : Int) => [.int k x]
  | .bool, (x : Bool) => [.bool x]
  | .str, (x : List UInt8) => [.str x]
  | .ints k, (x : List Int) => [.view (.int k) x]
  | .spec, x => encSpec x
  | .spr, x => encSpr x
  | .fix, x => encFix x
  | .item, x => encItem x
  | .live, x => encLive x
  | .ape, x => encApe x
  | .opt, x => encOpt x
  | .task, x => encTask x
  | .aim, x => encAim x

def castL : (r r' : RTy) → List r'.carrier → Option (List r.carrier)
  | .int k, .int k', (xs : List Int) => if k' = k then some xs else none
  | .bool, .bool, (xs : List Bool) => some xs
  | .str, .str, (xs : List (List UInt8)) => some xs
  | .ints k, .ints k', (xs : List (List Int)) => if k' = k then some xs else none
  | .spec, .spec, xs => some xs
  | .spr, .spr, xs => some xs
  | .fix, .fix, xs => some xs
  | .item, .item, xs => some xs
  | .live, .live, xs => some xs
  | .ape, .ape, xs => some xs
  | .opt, .opt, xs => some xs
  | .task, .task, xs => some xs
  | .aim, .aim, xs => some xs
  | _, _, _ => none
def castView (r : RTy) : AV → Option (List r.carrier)
  | .view r' xs => castL r r' xs
  | .nils => some []
  | _ => none

def decSpec : List AV → Option Fu.Spec
  | [a, b, c, d, e, f] =>
    match a.i, b.i, c.i, d.i, e.i, f.i with
    | some a, some b, some c, some d, some e, some f => some ⟨a, b, c, d, e, f⟩
    | _, _, _, _, _, _ => none
  | _ => none
def decJob : List AV → Option Fu.Job
  | [a, b, c, d, e, f, g, h] =>
    match a.b, b.i, c.i, d.i, e.b, f.i, g.i, h.i with
    | some a, some b, some c, some d, some e, some f, some g, some h => some ⟨a, b, c, d, e, f, g, h⟩
    | _, _, _, _, _, _, _, _ => none
  | _ => none
def decLive (l : List AV) : Option Fu.Live :=
  match decSpec (l.take 6), decJob ((l.drop 6).take 8), l.drop 14 with
  | some s, some j, [a, b, c] =>
    match a.i, b.i, c.i with
    | some a, some b, some c => some ⟨s, j, a, b, c⟩
    | _, _, _ => none
  | _, _, _ => none
def decFix (l : List AV) : Option Fu.Fix :=
  match decSpec (l.take 6), l.drop 6 with
  | some s, [a] => match a.i with | some a => some ⟨s, a⟩ | none => none
  | _, _ => none
def decSpr : List AV → Option Fu.Spr
  | [a, b, c] => match a.i, b.i, c.i with | some a, some b, some c => some ⟨a, b, c⟩ | _, _, _ => none
  | _ => none
def decItem : List AV → Option Fu.Item
  | [a, b] => match a.i, b.i with | some a, some b => some ⟨a, b⟩ | _, _ => none
  | _ => none
def decApe : List AV → Option Fu.Ape
  | [a, b, c, d, e] => match a.i, b.i, c.i, d.i, e.i with | some a, some b, some c, some d, some e => some ⟨a, b, c, d, e⟩ | _, _, _, _, _ => none
  | _ => none
def decOpt : List AV → Option Fu.Opt
  | [a, b, c] => match a.i, b.i, c.i with | some a, some b, some c => some ⟨a, b, c⟩ | _, _, _ => none
  | _ => none
def decRing : List AV → Option Fu.Ring
  | [a, b] => match a.i, b.asIntK .u64 with | some a, some b => some ⟨a, b⟩ | _, _ => none
  | _ => none
def decTask (l : List AV) : Option Fu.Task :=
  match l.take 1, decSpec ((l.drop 1).take 6), (l.drop 7).take 4, decJob ((l.drop 11).take 8), decRing ((l.drop 19).take 2), l.drop 21 with
  | [a], some s, [b, c, d, e], some j, some h, [k] =>
    match a.i, b.i, c.i, d.i, e.i, k.b with
    | some a, some b, some c, some d, some e, some k => some ⟨a, s, b, c, d, e, j, h, k⟩
    | _, _, _, _, _, _ => none
  | _, _, _, _, _, _ => none
def decAim (l : List AV) : Option Fu.Aim :=
  match l.take 1, decSpec ((l.drop 1).take 6), l.drop 7 with
  | [a], some s, [b] => match a.i, b.i with | some a, some b => some ⟨a, s, b⟩ | _, _ => none
  | _, _, _ => none

def RTy.dec : (r : RTy) → List AV → Option r.carrier
  | .int k, l => match l with | [a] => a.asIntK k | _ => none
  | .bool, l => match l with | [a] => a.b | _ => none
  | .str, l => match l with | [a] => a.s | _ => none
  | .ints k, l => match l with | [a] => castView (.int k) a | _ => none
  | .spec, l => decSpec l
  | .spr, l => decSpr l
  | .fix, l => decFix l
  | .item, l => decItem l
  | .live, l => decLive l
  | .ape, l => decApe l
  | .opt, l => decOpt l
  | .task, l => decTask l
  | .aim, l => decAim l

/-- The rows of so many cells. -/
def decRows (r : RTy) : Nat → List AV → Option (List r.carrier)
  | 0, l => match l with | [] => some [] | _ => none
  | n + 1, l =>
    match r.dec (l.take r.size), decRows r n (l.drop r.size) with
    | some x, some xs => some (x :: xs)
    | _, _ => none

def AV.asView (r : RTy) : AV → Option (List r.carrier)
  | .lv n cs => decRows r n cs
  | v => castView r v

def rd (r : RTy) (xs : List r.carrier) (i : Int) : r.carrier := xs.getD i.toNat r.dflt

/-! ### trees of results -/
inductive Tree (α : Type) where
  | ret (a : α)
  | fail
  | ite (c : Bool) (t e : Tree α)
  | asrt (p : Prop) (t : Tree α)

def Tree.bind {α β : Type} : Tree α → (α → Tree β) → Tree β
  | .ret a, f => f a
  | .fail, _ => .fail
  | .ite c t e, f => .ite c (t.bind f) (e.bind f)
  | .asrt p t, f => .asrt p (t.bind f)

def Tree.wp {α : Type} : Tree α → (α → Prop) → Prop
  | .ret a, Q => Q a
  | .fail, _ => False
  | .ite c t e, Q => (c = true → t.wp Q) ∧ (c = false → e.wp Q)
  | .asrt p t, Q => p ∧ t.wp Q

/-- What the tree comes to. -/
def Tree.Out {α : Type} : Tree α → α → Prop
  | .ret a, x => a = x
  | .fail, _ => False
  | .ite c t e, x => if c = true then t.Out x else e.Out x
  | .asrt p t, x => p ∧ t.Out x

def Tree.ofOption {α : Type} : Option α → Tree α
  | some a => .ret a
  | none => .fail

/-! ### memory of the call's own -/
inductive Blk where
  | cells (cs : List AV)
  | rows (r : RTy) (e : TypeId) (xs : List r.carrier)
  | imap (r : RTy) (es : List (Int × r.carrier))
  | lmap (es : List (AV × AV))

abbrev Heap := List (Nat × Blk)

def Heap.get : Heap → Nat → Option Blk
  | [], _ => none
  | (b, x) :: h, n => bif Nat.beq b n then some x else Heap.get h n
def Heap.put : Heap → Nat → Blk → Heap
  | [], n, x => [(n, x)]
  | (b, y) :: h, n, x => bif Nat.beq b n then (b, x) :: h else (b, y) :: Heap.put h n x
/-- A block at its place by number. -/
def Heap.ins : Heap → Nat → Blk → Heap
  | [], n, x => [(n, x)]
  | (b, y) :: h, n, x => bif Nat.blt n b then (n, x) :: (b, y) :: h else (b, y) :: Heap.ins h n x
def Heap.del : Heap → Nat → Heap
  | [], _ => []
  | (b, y) :: h, n => bif Nat.beq b n then Heap.del h n else (b, y) :: Heap.del h n

structure St where
  tmps : List AV
  heap : Heap
  next : Nat

inductive Ex where
  | normal
  | exit (id : Nat)
  | goto (l : Nat)
  | ret

/-- What a contract says: the result, and the blocks that it made (numbered from 0 on). -/
abbrev Con := List AV → Tree (AV × List Blk)
abbrev LoopCon := St → Tree (Ex × St)

structure Cfg where
  P : Program
  rty : TypeId → Option RTy
  con : List (Nat × Con)
  pcon : List (Nat × (List AV → Option AV))
  quiet : List Nat
  loops : List ((Nat × Nat) × LoopCon)

def findPcon : List (Nat × (List AV → Option AV)) → Nat → Option (List AV → Option AV)
  | [], _ => none
  | (b, x) :: h, n => bif Nat.beq b n then some x else findPcon h n
def findCon : List (Nat × Con) → Nat → Option Con
  | [], _ => none
  | (b, x) :: h, n => bif Nat.beq b n then some x else findCon h n
def findLoop : List ((Nat × Nat) × LoopCon) → Nat → Nat → Option LoopCon
  | [], _, _ => none
  | ((f, l), x) :: h, n, m => bif Nat.beq f n && Nat.beq l m then some x else findLoop h n m

/-! ### slots -/
def nth : List AV → Nat → AV
  | [], _ => .any
  | a :: _, 0 => a
  | _ :: l, n + 1 => nth l n
def setNth : List AV → Nat → AV → List AV
  | [], _, _ => []
  | _ :: l, 0, v => v :: l
  | a :: l, n + 1, v => a :: setNth l n v
def putT (dst : Option Nat) (v : AV) (ts : List AV) : List AV :=
  match dst with
  | some d => setNth ts d v
  | none => ts

def ofCell : Value → AV
  | .bool b => .blit b
  | .int k n => .lit k n
  | .string s => .str s.data.toList
  | .pointer none => .nilp
  | .slice none 0 0 => .nils
  | .map none => .nilmap
  | .nilFunc => .nilfn
  | .nilIface => .niliface
  | _ => .any
def ofValue : Value → AV
  | .agg cs => .agg (cs.toList.map ofCell)
  | v => ofCell v

def evO (ts : List AV) : Operand → AV
  | .tmp t => nth ts t
  | .const v => ofValue v
  | .global _ => .any
  | .func f => .fn (.func f) [] []

/-! ### types -/
def szOf (P : Program) (t : TypeId) : Option Nat := match P.info? t, P.underlying t with | some i, some _ => some i.size | _, _ => none
def isAggT (P : Program) (t : TypeId) : Bool := match P.underlying t with | some (.struct _) => true | some (.array _ _) => true | _ => false
def zeroAV (P : Program) (t : TypeId) : Option AV :=
  match P.info? t with
  | some i => match i.zero with | some v => some (ofValue v) | none => none
  | none => none
/-- A field's place, and its cells. -/
def fieldOf (P : Program) (s : TypeId) (f : Nat) : Option (Nat × Nat × TypeId) :=
  match P.underlying s with
  | some (.struct fs) =>
    match fs[f]? with
    | some fd => match szOf P fd.type with | some n => some (fd.offset, n, fd.type) | none => none
    | none => none
  | _ => none

/-- A variable's value out of cells. -/
def partAV (P : Program) (t : TypeId) (cs : List AV) (off : Nat) : Option AV :=
  match szOf P t with
  | none => none
  | some n =>
    if off + n ≤ cs.length then
      if isAggT P t then some (.agg ((cs.drop off).take n))
      else match (cs.drop off) with | c :: _ => (if n = 1 then some c else none) | [] => none
    else none

end Go.Fx
