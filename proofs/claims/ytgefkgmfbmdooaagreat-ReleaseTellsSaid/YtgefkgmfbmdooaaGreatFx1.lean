import Derived.WalkKit
import Derived.ChangeKeysEq
namespace Go.Fu
structure Spec where
  C:Int
  T:Int
  Max:Int
  M:Int
  K:Int
  E:Int
  deriving DecidableEq,Inhabited
structure Job where
  On:Bool
  J:Int
  Rel:Int
  Due:Int
  Mand:Bool
  C:Int
  D:Int
  Ran:Int
  deriving DecidableEq,Inhabited
structure Live where
  S:Spec
  J:Job
  P:Int
  At:Int
  N:Int
  deriving DecidableEq,Inhabited
structure Fix where
  S:Spec
  P:Int
  deriving DecidableEq,Inhabited
structure Spr where
  U:Int
  Min:Int
  E:Int
  deriving DecidableEq,Inhabited
structure Item where
  Key:Int
  ID:Int
  deriving DecidableEq,Inhabited
structure Ape where
  ID:Int
  Due:Int
  C:Int
  V:Int
  Ran:Int
  deriving DecidableEq,Inhabited
structure Opt where
  Far:Int
  Due:Int
  ID:Int
  deriving DecidableEq,Inhabited
structure Ring where
  N:Int
  B:Int
  deriving DecidableEq,Inhabited
structure Task where
  ID:Int
  S:Spec
  P:Int
  Next:Int
  At:Int
  N:Int
  J:Job
  H:Ring
  Kept:Bool
  deriving DecidableEq,Inhabited
structure Aim where
  ID:Int
  S:Spec
  P:Int
  deriving DecidableEq,Inhabited
structure Reply where
  E:Int
  N:Int
  deriving DecidableEq,Inhabited
structure Choice where
  Band:Int
  ID:Int
  deriving DecidableEq,Inhabited
structure Op where
  Kind:Int
  ID:Int
  S:Spec
  T:Int
  Max:Int
  Within:Int
  C:Int
  V:Int
  D:List Int
  deriving DecidableEq,Inhabited
structure World where
  Now:Int
  T:List Task
  A:List Ape
  Cur:Int
  deriving DecidableEq,Inhabited
structure Trace where
  At:Int
  C:Choice
  F:Int
  Began:List Int
  Missed:List Int
  Gone:List Int
  deriving DecidableEq,Inhabited
structure Ask where
  On:Bool
  Since:Int
  By:Int
  New:Int
  L:List Aim
  deriving DecidableEq,Inhabited
structure Serv where
  W:World
  R:Ask
  NextID:Int
  NextAp:Int
  deriving DecidableEq,Inhabited
end Go.Fu
namespace Go.Fx
open Go
inductive RTy where
  | int (k:IntKind)
  | bool
  | str
  | ints (k:IntKind)
  | spec | spr | fix | item | live | ape | opt | task | aim | op
  deriving DecidableEq
@[reducible] def RTy.carrier:RTy→Type
  | .int _=>Int
  | .bool=>Bool
  | .str=>List UInt8
  | .ints _=>List Int
  | .spec=>Fu.Spec
  | .spr=>Fu.Spr
  | .fix=>Fu.Fix
  | .item=>Fu.Item
  | .live=>Fu.Live
  | .ape=>Fu.Ape
  | .opt=>Fu.Opt
  | .task=>Fu.Task
  | .aim=>Fu.Aim
  | .op=>Fu.Op
def RTy.size:RTy→Nat
  | .int _=>1
  | .bool=>1
  | .str=>1
  | .ints _=>1
  | .spec=>6
  | .spr=>3
  | .fix=>7
  | .item=>2
  | .live=>17
  | .ape=>5
  | .opt=>3
  | .task=>22
  | .aim=>8
  | .op=>14
def RTy.isAgg:RTy→Bool
  | .int _=>false
  | .bool=>false
  | .str=>false
  | .ints _=>false
  | _=>true
def RTy.dflt:(r:RTy)→r.carrier
  | .int _=>(0:Int)
  | .bool=>false
  | .str=>([]:List UInt8)
  | .ints _=>([]:List Int)
  | .spec=>(default:Fu.Spec)
  | .spr=>(default:Fu.Spr)
  | .fix=>(default:Fu.Fix)
  | .item=>(default:Fu.Item)
  | .live=>(default:Fu.Live)
  | .ape=>(default:Fu.Ape)
  | .opt=>(default:Fu.Opt)
  | .task=>(default:Fu.Task)
  | .aim=>(default:Fu.Aim)
  | .op=>(default:Fu.Op)
inductive AV where
  | any
  | lit (k:IntKind) (n:Int)
  | int (k:IntKind) (n:Int)
  | blit (b:Bool)
  | bool (b:Bool)
  | str (s:List UInt8)
  | nilp
  | ptr (b off:Nat)
  | rptr (b:Nat) (r:RTy) (i:Int) (off:Nat)
  | pv (cs:List AV)
  | nils
  | own (b:Nat)
  | slc (b off n sz:Nat)
  | view (r:RTy) (xs:List r.carrier)
  | lv (n:Nat) (cs:List AV)
  | fn (f:Fn) (first captured:List AV)
  | nilfn
  | iface (t:TypeId) (v:AV)
  | niliface
  | map (b:Nat)
  | nilmap
  | agg (cs:List AV)
  | tup (vs:List AV)
  | fv (r:RTy) (xs:List r.carrier)
def AV.asIntK (k:IntKind):AV→Option Int
  | .lit k' n=>if k' = k then some n else none
  | .int k' n=>if k' = k then some n else none
  | _=>none
def AV.i (a:AV):Option Int:=a.asIntK .i64
def AV.b:AV→Option Bool
  | .blit b=>some b
  | .bool b=>some b
  | _=>none
def AV.s:AV→Option (List UInt8)
  | .str l=>some l
  | _=>none
def AV.cells:AV→List AV
  | .agg cs=>cs
  | v=>[v]
def AV.oneCell:AV→Bool
  | .agg _=>false
  | .tup _=>false
  | .any=>false
  | _=>true
def encSpec (s:Fu.Spec):List AV:=[.int .i64 s.C,.int .i64 s.T,.int .i64 s.Max,.int .i64 s.M,.int .i64 s.K,.int .i64 s.E]
def encJob (j:Fu.Job):List AV:=[.bool j.On,.int .i64 j.J,.int .i64 j.Rel,.int .i64 j.Due,.bool j.Mand,.int .i64 j.C,.int .i64 j.D,.int .i64 j.Ran]
def encLive (x:Fu.Live):List AV:=encSpec x.S ++ encJob x.J ++ [.int .i64 x.P,.int .i64 x.At,.int .i64 x.N]
def encFix (x:Fu.Fix):List AV:=encSpec x.S ++ [.int .i64 x.P]
def encSpr (x:Fu.Spr):List AV:=[.int .i64 x.U,.int .i64 x.Min,.int .i64 x.E]
def encItem (x:Fu.Item):List AV:=[.int .i64 x.Key,.int .i64 x.ID]
def encApe (x:Fu.Ape):List AV:=[.int .i64 x.ID,.int .i64 x.Due,.int .i64 x.C,.int .i64 x.V,.int .i64 x.Ran]
def encOpt (x:Fu.Opt):List AV:=[.int .i64 x.Far,.int .i64 x.Due,.int .i64 x.ID]
def encRing (x:Fu.Ring):List AV:=[.int .i64 x.N,.int .u64 x.B]
def encTask (x:Fu.Task):List AV :=
  [.int .i64 x.ID] ++ encSpec x.S ++ [.int .i64 x.P,.int .i64 x.Next,.int .i64 x.At,.int .i64 x.N] ++ encJob x.J ++ encRing x.H ++ [.bool x.Kept]
def encAim (x:Fu.Aim):List AV:=[.int .i64 x.ID] ++ encSpec x.S ++ [.int .i64 x.P]
def encOp (x:Fu.Op):List AV:=[.int .i64 x.Kind,.int .i64 x.ID] ++ encSpec x.S ++ [.int .i64 x.T,.int .i64 x.Max,.int .i64 x.Within,.int .i64 x.C,.int .i64 x.V,.view (.int .i64) x.D]
def RTy.enc:(r:RTy)→r.carrier→List AV
  | .int k,(x:Int)=>[.int k x]
  | .bool,(x:Bool)=>[.bool x]
  | .str,(x:List UInt8)=>[.str x]
  | .ints k,(x:List Int)=>[.view (.int k) x]
  | .spec,x=>encSpec x
  | .spr,x=>encSpr x
  | .fix,x=>encFix x
  | .item,x=>encItem x
  | .live,x=>encLive x
  | .ape,x=>encApe x
  | .opt,x=>encOpt x
  | .task,x=>encTask x
  | .aim,x=>encAim x
  | .op,x=>encOp x
def castL:(r r':RTy)→List r'.carrier→Option (List r.carrier)
  | .int k,.int k',(xs:List Int)=>if k' = k then some xs else none
  | .bool,.bool,(xs:List Bool)=>some xs
  | .str,.str,(xs:List (List UInt8))=>some xs
  | .ints k,.ints k',(xs:List (List Int))=>if k' = k then some xs else none
  | .spec,.spec,xs=>some xs
  | .spr,.spr,xs=>some xs
  | .fix,.fix,xs=>some xs
  | .item,.item,xs=>some xs
  | .live,.live,xs=>some xs
  | .ape,.ape,xs=>some xs
  | .opt,.opt,xs=>some xs
  | .task,.task,xs=>some xs
  | .aim,.aim,xs=>some xs
  | .op,.op,xs=>some xs
  | _,_,_=>none
def castView (r:RTy):AV→Option (List r.carrier)
  | .view r' xs=>castL r r' xs
  | .nils=>some []
  | _=>none
def decSpec:List AV→Option Fu.Spec
  | [a,b,c,d,e,f] =>
    match a.i,b.i,c.i,d.i,e.i,f.i with
    | some a,some b,some c,some d,some e,some f=>some ⟨a,b,c,d,e,f⟩
    | _,_,_,_,_,_=>none
  | _=>none
def decJob:List AV→Option Fu.Job
  | [a,b,c,d,e,f,g,h] =>
    match a.b,b.i,c.i,d.i,e.b,f.i,g.i,h.i with
    | some a,some b,some c,some d,some e,some f,some g,some h=>some ⟨a,b,c,d,e,f,g,h⟩
    | _,_,_,_,_,_,_,_=>none
  | _=>none
def decLive (l:List AV):Option Fu.Live :=
  match decSpec (l.take 6),decJob ((l.drop 6).take 8),l.drop 14 with
  | some s,some j,[a,b,c] =>
    match a.i,b.i,c.i with
    | some a,some b,some c=>some ⟨s,j,a,b,c⟩
    | _,_,_=>none
  | _,_,_=>none
def decFix (l:List AV):Option Fu.Fix :=
  match decSpec (l.take 6),l.drop 6 with
  | some s,[a]=>match a.i with | some a=>some ⟨s,a⟩ | none=>none
  | _,_=>none
def decSpr:List AV→Option Fu.Spr
  | [a,b,c]=>match a.i,b.i,c.i with | some a,some b,some c=>some ⟨a,b,c⟩ | _,_,_=>none
  | _=>none
def decItem:List AV→Option Fu.Item
  | [a,b]=>match a.i,b.i with | some a,some b=>some ⟨a,b⟩ | _,_=>none
  | _=>none
def decApe:List AV→Option Fu.Ape
  | [a,b,c,d,e]=>match a.i,b.i,c.i,d.i,e.i with | some a,some b,some c,some d,some e=>some ⟨a,b,c,d,e⟩ | _,_,_,_,_=>none
  | _=>none
def decOpt:List AV→Option Fu.Opt
  | [a,b,c]=>match a.i,b.i,c.i with | some a,some b,some c=>some ⟨a,b,c⟩ | _,_,_=>none
  | _=>none
def decRing:List AV→Option Fu.Ring
  | [a,b]=>match a.i,b.asIntK .u64 with | some a,some b=>some ⟨a,b⟩ | _,_=>none
  | _=>none
def decTask (l:List AV):Option Fu.Task :=
  match l.take 1,decSpec ((l.drop 1).take 6),(l.drop 7).take 4,decJob ((l.drop 11).take 8),decRing ((l.drop 19).take 2),l.drop 21 with
  | [a],some s,[b,c,d,e],some j,some h,[k] =>
    match a.i,b.i,c.i,d.i,e.i,k.b with
    | some a,some b,some c,some d,some e,some k=>some ⟨a,s,b,c,d,e,j,h,k⟩
    | _,_,_,_,_,_=>none
  | _,_,_,_,_,_=>none
def decAim (l:List AV):Option Fu.Aim :=
  match l.take 1,decSpec ((l.drop 1).take 6),l.drop 7 with
  | [a],some s,[b]=>match a.i,b.i with | some a,some b=>some ⟨a,s,b⟩ | _,_=>none
  | _,_,_=>none
def decOp (l:List AV):Option Fu.Op :=
  match l.take 2,decSpec ((l.drop 2).take 6),l.drop 8 with
  | [a,b],some s,[c,d,e,f,g,h] =>
    match a.i,b.i,c.i,d.i,e.i,f.i,g.i,castView (.int .i64) h with
    | some a,some b,some c,some d,some e,some f,some g,some h=>some ⟨a,b,s,c,d,e,f,g,h⟩
    | _,_,_,_,_,_,_,_=>none
  | _,_,_=>none
def RTy.dec:(r:RTy)→List AV→Option r.carrier
  | .int k,l=>match l with | [a]=>a.asIntK k | _=>none
  | .bool,l=>match l with | [a]=>a.b | _=>none
  | .str,l=>match l with | [a]=>a.s | _=>none
  | .ints k,l=>match l with | [a]=>castView (.int k) a | _=>none
  | .spec,l=>decSpec l
  | .spr,l=>decSpr l
  | .fix,l=>decFix l
  | .item,l=>decItem l
  | .live,l=>decLive l
  | .ape,l=>decApe l
  | .opt,l=>decOpt l
  | .task,l=>decTask l
  | .aim,l=>decAim l
  | .op,l=>decOp l
def decRows (r:RTy):Nat→List AV→Option (List r.carrier)
  | 0,l=>match l with | []=>some [] | _=>none
  | n + 1,l =>
    match r.dec (l.take r.size),decRows r n (l.drop r.size) with
    | some x,some xs=>some (x :: xs)
    | _,_=>none
def AV.asView (r:RTy):AV→Option (List r.carrier)
  | .lv n cs=>decRows r n cs
  | v=>castView r v
def rd (r:RTy) (xs:List r.carrier) (i:Int):r.carrier:=xs.getD i.toNat r.dflt
inductive Tree (α:Type) where
  | ret (a:α)
  | fail
  | ite (c:Bool) (t e:Tree α)
  | asrt (p:Prop) (t:Tree α)
def Tree.bind {α β:Type}:Tree α→(α→Tree β)→Tree β
  | .ret a,f=>f a
  | .fail,_=>.fail
  | .ite c t e,f=>.ite c (t.bind f) (e.bind f)
  | .asrt p t,f=>.asrt p (t.bind f)
def Tree.wp {α:Type}:Tree α→(α→Prop)→Prop
  | .ret a,Q=>Q a
  | .fail,_=>False
  | .ite c t e,Q=>(c = true→t.wp Q)∧(c = false→e.wp Q)
  | .asrt p t,Q=>p∧t.wp Q
def Tree.Out {α:Type}:Tree α→α→Prop
  | .ret a,x=>a = x
  | .fail,_=>False
  | .ite c t e,x=>if c = true then t.Out x else e.Out x
  | .asrt p t,x=>p∧t.Out x
def Tree.ofOption {α:Type}:Option α→Tree α
  | some a=>.ret a
  | none=>.fail
inductive Blk where
  | cells (cs:List AV)
  | rows (r:RTy) (e:TypeId) (xs:List r.carrier)
  | imap (r:RTy) (es:List (Int × r.carrier))
  | lmap (es:List (AV × AV))
abbrev Heap:=List (Nat × Blk)
def Heap.get:Heap→Nat→Option Blk
  | [],_=>none
  | (b,x) :: h,n=>bif Nat.beq b n then some x else Heap.get h n
def Heap.put:Heap→Nat→Blk→Heap
  | [],n,x=>[(n,x)]
  | (b,y) :: h,n,x=>bif Nat.beq b n then (b,x) :: h else (b,y) :: Heap.put h n x
def Heap.ins:Heap→Nat→Blk→Heap
  | [],n,x=>[(n,x)]
  | (b,y) :: h,n,x=>bif Nat.blt n b then (n,x) :: (b,y) :: h else (b,y) :: Heap.ins h n x
def Heap.del:Heap→Nat→Heap
  | [],_=>[]
  | (b,y) :: h,n=>bif Nat.beq b n then Heap.del h n else (b,y) :: Heap.del h n
structure St where
  tmps:List AV
  heap:Heap
  next:Nat
inductive Ex where
  | normal
  | exit (id:Nat)
  | goto (l:Nat)
  | ret
abbrev Con:=List AV→Tree (AV × List Blk)
abbrev LoopCon:=St→Tree (Ex × St)
structure Cfg where
  P:Program
  rty:TypeId→Option RTy
  con:List (Nat × Con)
  pcon:List (Nat × (List AV→Option AV))
  quiet:List Nat
  loops:List ((Nat × Nat) × LoopCon)
  jumps:List ((Nat × Nat) × LoopCon)
  /-- The types of slices that are cut in place. -/
  cuts:List TypeId:=[]
  /-- Functions that use up a block, and hand it on as another one. -/
  eat:List (Nat × (TypeId→List AV→Tree Blk)):=[]
def findEat:List (Nat × (TypeId→List AV→Tree Blk))→Nat→Option (TypeId→List AV→Tree Blk)
  | [],_=>none
  | (b,x) :: h,n=>bif Nat.beq b n then some x else findEat h n
def findPcon:List (Nat × (List AV→Option AV))→Nat→Option (List AV→Option AV)
  | [],_=>none
  | (b,x) :: h,n=>bif Nat.beq b n then some x else findPcon h n
def findCon:List (Nat × Con)→Nat→Option Con
  | [],_=>none
  | (b,x) :: h,n=>bif Nat.beq b n then some x else findCon h n
def findLoop:List ((Nat × Nat) × LoopCon)→Nat→Nat→Option LoopCon
  | [],_,_=>none
  | ((f,l),x) :: h,n,m=>bif Nat.beq f n && Nat.beq l m then some x else findLoop h n m
def nth:List AV→Nat→AV
  | [],_=>.any
  | a :: _,0=>a
  | _ :: l,n + 1=>nth l n
def setNth:List AV→Nat→AV→List AV
  | [],_,_=>[]
  | _ :: l,0,v=>v :: l
  | a :: l,n + 1,v=>a :: setNth l n v
def putT (dst:Option Nat) (v:AV) (ts:List AV):List AV :=
  match dst with
  | some d=>setNth ts d v
  | none=>ts
def ofCell:Value→AV
  | .bool b=>.blit b
  | .int k n=>.lit k n
  | .string s=>.str s.data.toList
  | .pointer none=>.nilp
  | .slice none 0 0=>.nils
  | .map none=>.nilmap
  | .nilFunc=>.nilfn
  | .nilIface=>.niliface
  | _=>.any
def ofValue:Value→AV
  | .agg cs=>.agg (cs.toList.map ofCell)
  | v=>ofCell v
def evO (ts:List AV):Operand→AV
  | .tmp t=>nth ts t
  | .const v=>ofValue v
  | .global _=>.any
  | .func f=>.fn (.func f) [] []
def szOf (P:Program) (t:TypeId):Option Nat:=match P.info? t,P.underlying t with | some i,some _=>some i.size | _,_=>none
def isAggT (P:Program) (t:TypeId):Bool:=match P.underlying t with | some (.struct _)=>true | some (.array _ _)=>true | _=>false
def zeroAV (P:Program) (t:TypeId):Option AV :=
  match P.info? t with
  | some i=>match i.zero with | some v=>some (ofValue v) | none=>none
  | none=>none
def fieldOf (P:Program) (s:TypeId) (f:Nat):Option (Nat × Nat × TypeId) :=
  match P.underlying s with
  | some (.struct fs) =>
    match fs[f]? with
    | some fd=>match szOf P fd.type with | some n=>some (fd.offset,n,fd.type) | none=>none
    | none=>none
  | _=>none
def partAV (P:Program) (t:TypeId) (cs:List AV) (off:Nat):Option AV :=
  match szOf P t with
  | none=>none
  | some n =>
    if off + n≤cs.length then
      if isAggT P t then some (.agg ((cs.drop off).take n))
      else match (cs.drop off) with | c :: _=>(if n = 1 then some c else none) | []=>none
    else none
end Go.Fx
namespace Go.Fx
open Go
def AV.num:AV→Option (Bool × IntKind × Int)
  | .lit k n=>some (true,k,n)
  | .int k n=>some (false,k,n)
  | _=>none
def AV.truth:AV→Option (Bool × Bool)
  | .blit b=>some (true,b)
  | .bool b=>some (false,b)
  | _=>none
def mkInt (l:Bool) (k:IntKind) (n:Int):AV:=match l with | true=>.lit k n | false=>.int k n
def mkBool (l:Bool) (b:Bool):AV:=match l with | true=>.blit b | false=>.bool b
def arithV (f:IntKind→Int→Int→Int) (a b:AV):Tree AV :=
  match a.num,b.num with
  | some (l,k,x),some (l',k',y)=>if k = k' then .ret (mkInt (l && l') k (f k x y)) else .fail
  | _,_=>.fail
def cmpV (f:Int→Int→Bool) (a b:AV):Tree AV :=
  match a.num,b.num with
  | some (l,k,x),some (l',k',y)=>if k = k' then .ret (mkBool (l && l') (f x y)) else .fail
  | _,_=>.fail
def need {α:Type} (l:Bool) (p:Prop) [Decidable p] (t:Tree α):Tree α :=
  match l with
  | true=>if p then t else .fail
  | false=>.asrt p t
def shlI (k:IntKind) (x y:Int):Int:=k.wrap (x * 2 ^ (min y.toNat k.bits))
def shrI (k:IntKind) (x y:Int):Int:=x.fdiv (2 ^ (min y.toNat k.bits))
def shiftV (f:IntKind→Int→Int→Int) (a b:AV):Tree AV :=
  match a.num,b.num with
  | some (l,k,x),some (l',_,y)=>need l' (0≤y) (.ret (mkInt (l && l') k (f k x y)))
  | _,_=>.fail
def divV (f:IntKind→Int→Int→Int) (a b:AV):Tree AV :=
  match a.num,b.num with
  | some (l,k,x),some (l',k',y)=>if k = k' then need l' (y≠0) (.ret (mkInt (l && l') k (f k x y))) else .fail
  | _,_=>.fail
def andI (k:IntKind) (x y:Int):Int:=k.wrap ((BitVec.ofInt k.bits x &&& BitVec.ofInt k.bits y).toNat:Int)
def orI (k:IntKind) (x y:Int):Int:=k.wrap ((BitVec.ofInt k.bits x ||| BitVec.ofInt k.bits y).toNat:Int)
def xorI (k:IntKind) (x y:Int):Int:=k.wrap ((BitVec.ofInt k.bits x ^^^ BitVec.ofInt k.bits y).toNat:Int)
def andNotI (k:IntKind) (x y:Int):Int:=k.wrap ((BitVec.ofInt k.bits x &&& ~~~(BitVec.ofInt k.bits y)).toNat:Int)
def andAV:AV→AV→Option AV
  | .blit true,b=>some b
  | .blit false,.blit _=>some (.blit false)
  | .blit false,.bool _=>some (.blit false)
  | .bool x,.blit true=>some (.bool x)
  | .bool _,.blit false=>some (.blit false)
  | .bool x,.bool y=>some (.bool (x && y))
  | _,_=>none
def notAV:AV→Option AV
  | .blit b=>some (.blit (!b))
  | .bool b=>some (.bool (!b))
  | _=>none
def eqFields (P:Program) (f:TypeId→AV→AV→Option AV) (xs ys:List AV):List Field→Option AV
  | []=>some (.blit true)
  | fd :: fs =>
    match partAV P fd.type xs fd.offset,partAV P fd.type ys fd.offset with
    | some a,some b =>
      match f fd.type a b,eqFields P f xs ys fs with
      | some r,some s=>andAV r s
      | _,_=>none
    | _,_=>none
def eqElems (P:Program) (f:AV→AV→Option AV) (t:TypeId) (sz:Nat) (xs ys:List AV):Nat→Nat→Option AV
  | _,0=>some (.blit true)
  | i,n + 1 =>
    match partAV P t xs (i * sz),partAV P t ys (i * sz) with
    | some a,some b =>
      match f a b,eqElems P f t sz xs ys (i + 1) n with
      | some r,some s=>andAV r s
      | _,_=>none
    | _,_=>none
def eqV (P:Program):Nat→TypeId→AV→AV→Option AV
  | 0,_,_,_=>none
  | d + 1,t,a,b =>
    match P.underlying t with
    | some (.int k) =>
      match a.num,b.num with
      | some (l,k1,x),some (l',k2,y)=>if k1 = k∧k2 = k then some (mkBool (l && l') (x == y)) else none
      | _,_=>none
    | some .bool =>
      match a.truth,b.truth with
      | some (l,x),some (l',y)=>some (mkBool (l && l') (x == y))
      | _,_=>none
    | some .string =>
      match a,b with
      | .str x,.str y=>some (.bool (x == y))
      | _,_=>none
    | some (.pointer _) =>
      match a,b with
      | .nilp,.nilp=>some (.blit true)
      | .nilp,.pv _=>some (.blit false)
      | .pv _,.nilp=>some (.blit false)
      | _,_=>none
    | some (.func _ _ _) =>
      match a,b with
      | .nilfn,.nilfn=>some (.blit true)
      | .nilfn,.fn _ _ _=>some (.blit false)
      | .fn _ _ _,.nilfn=>some (.blit false)
      | _,_=>none
    | some (.struct fs) =>
      match a,b with
      | .agg xs, .agg ys => if P.stoodInHeld t || fs.any (fun f => f.name == "_") then none else eqFields P (eqV P d) xs ys fs.toList
      | _,_=>none
    | some (.array n e) =>
      match a,b,szOf P e with
      | .agg xs,.agg ys,some sz=>eqElems P (eqV P d e) e sz xs ys 0 n
      | _,_,_=>none
    | _=>none
def eqTop (P:Program) (t:TypeId) (a b:AV):Option AV :=
  match a,b with
  | .agg _,.agg _=>if P.eqGuardType P.depth t then none else eqV P 20 t a b
  | .agg _,_=>none
  | _,.agg _=>none
  | .str _,_=>none
  | _,.str _=>none
  | .niliface,_=>none
  | _,.niliface=>none
  | .iface _ _,_=>none
  | _,.iface _ _=>none
  | a,b =>
    match a.num,b.num with
    | none,none=>eqV P 20 t a b
    | _,_=>none
def binOpV (P:Program) (op:BinOp) (t:TypeId) (a b:AV):Tree AV :=
  match op with
  | .add =>
    match a,b with
    | .str x,.str y=>.asrt (x.length + y.length≤9223372036854775807) (.ret (.str (x ++ y)))
    | a,b=>arithV (fun k x y=>k.wrap (x + y)) a b
  | .sub=>arithV (fun k x y=>k.wrap (x - y)) a b
  | .mul=>arithV (fun k x y=>k.wrap (x * y)) a b
  | .quo=>divV (fun k x y=>k.wrap (x.tdiv y)) a b
  | .rem=>divV (fun _ x y=>x.tmod y) a b
  | .and=>arithV andI a b
  | .or=>arithV orI a b
  | .xor=>arithV xorI a b
  | .andNot=>arithV andNotI a b
  | .shl=>shiftV shlI a b
  | .shr=>shiftV shrI a b
  | .lss=>cmpV (fun x y=>decide (x < y)) a b
  | .leq=>cmpV (fun x y=>decide (x≤y)) a b
  | .gtr=>cmpV (fun x y=>decide (x > y)) a b
  | .geq=>cmpV (fun x y=>decide (x≥y)) a b
  | .eql =>
    match a,b with
    | .str x,.str y=>.ret (.bool (x == y))
    | a,b =>
      match a.num,b.num with
      | some _,some _=>cmpV (fun x y=>x == y) a b
      | _,_=>Tree.ofOption (eqTop P t a b)
  | .neq =>
    match a,b with
    | .str x,.str y=>.ret (.bool (!(x == y)))
    | a,b =>
      match a.num,b.num with
      | some _,some _=>cmpV (fun x y=>x != y) a b
      | _,_=>Tree.ofOption (match eqTop P t a b with | some r=>notAV r | none=>none)
def unOpV (op:UnOp) (a:AV):Tree AV :=
  match op with
  | .neg=>match a.num with | some (l,k,x)=>.ret (mkInt l k (k.wrap (0 - x))) | none=>.fail
  | .not=>Tree.ofOption (notAV a)
  | _=>.fail
def joinAV (c:Bool):AV→AV→Option AV
  | .blit x,.blit y=>match x,y with
    | true,true=>some (.blit true)
    | false,false=>some (.blit false)
    | true,false=>some (.bool c)
    | false,true=>some (.bool (!c))
  | .lit k x,.lit k' y=>if k = k' then (if x = y then some (.lit k x) else some (.int k (bif c then x else y))) else none
  | .lit k x,.int k' y=>if k = k' then some (.int k (bif c then x else y)) else none
  | .int k x,.lit k' y=>if k = k' then some (.int k (bif c then x else y)) else none
  | .int k x,.int k' y=>if k = k' then some (.int k (bif c then x else y)) else none
  | .bool x,.bool y=>some (.bool (bif c then x else y))
  | .bool x,.blit true=>some (.bool (!c || x))
  | .bool x,.blit false=>some (.bool (c && x))
  | .blit true,.bool y=>some (.bool (c || y))
  | .blit false,.bool y=>some (.bool (!c && y))
  | .str x,.str y=>some (.str (bif c then x else y))
  | _,_=>none
def joinAny (c:Bool) (a b:AV):AV:=(joinAV c a b).getD .any
def pickV (c a b:AV):Tree AV :=
  match c with
  | .blit true=>.ret a
  | .blit false=>.ret b
  | .bool x=>.ite x (.ret a) (.ret b)
  | _=>.fail
def fieldAddrV (P:Program) (s:TypeId) (x:AV) (f:Nat):Tree AV :=
  match fieldOf P s f with
  | some (o,_ + 1,_) =>
    match x with
    | .ptr b off=>.ret (.ptr b (off + o))
    | .rptr b r i off=>.ret (.rptr b r i (off + o))
    | .pv cs=>if o≤cs.length then .ret (.pv (cs.drop o)) else .fail
    | _=>.fail
  | _=>.fail
def fieldV (P:Program) (s:TypeId) (x:AV) (f:Nat):Tree AV :=
  match fieldOf P s f,x with
  | some (o,_,t),.agg cs=>Tree.ofOption (partAV P t cs o)
  | _,_=>.fail
def loadV (P:Program) (look:Nat→Option Blk) (t:TypeId) (x:AV):Tree AV :=
  match x with
  | .ptr b off=>match look b with | some (.cells cs)=>Tree.ofOption (partAV P t cs off) | _=>.fail
  | .pv cs=>Tree.ofOption (partAV P t cs 0)
  | .rptr b r i off =>
    match look b with
    | some (.rows r' _ xs)=>if r' = r then .asrt (0≤i∧i < xs.length) (Tree.ofOption (partAV P t (r'.enc (rd r' xs i)) off)) else .fail
    | _=>.fail
  | _=>.fail
def indexAddrV (P:Program) (look:Nat→Option Blk) (t:TypeId) (x ix:AV):Tree AV :=
  match ix.num,P.underlying t with
  | some (l,_,i),some (.slice e) =>
    match szOf P e with
    | none=>.fail
    | some sz =>
      match x with
      | .view r xs=>if r.size = sz then .asrt (0≤i∧i < xs.length) (.ret (.pv (r.enc (rd r xs i)))) else .fail
      | .own b =>
        match look b with
        | some (.rows r _ xs)=>if r.size = sz then .asrt (0≤i∧i < xs.length) (.ret (.rptr b r i 0)) else .fail
        | _=>.fail
      | .slc b off n sz'=>if l = true∧sz' = sz∧0≤i∧i < n then .ret (.ptr b (off + i.toNat * sz)) else .fail
      | .lv n cs=>if l = true∧0≤i∧i < n∧n * sz≤cs.length then .ret (.pv (cs.drop (i.toNat * sz))) else .fail
      | _=>.fail
  | some (l,_,i),some (.array n e) =>
    match szOf P e with
    | none=>.fail
    | some sz =>
      match x with
      | .ptr b off=>if l = true∧0≤i∧i < n then .ret (.ptr b (off + i.toNat * sz)) else .fail
      | .pv cs=>if l = true∧0≤i∧i < n∧n * sz≤cs.length then .ret (.pv (cs.drop (i.toNat * sz))) else .fail
      | _=>.fail
  | _,_=>.fail
def selInts (k:IntKind):List AV→Option (List Int)
  | []=>some []
  | a :: l=>match a.asIntK k,selInts k l with | some x,some xs=>some (x :: xs) | _,_=>none
def selBools:List AV→Option (List Bool)
  | []=>some []
  | a :: l=>match a.b,selBools l with | some x,some xs=>some (x :: xs) | _,_=>none
def indexV (P:Program) (t:TypeId) (x ix:AV):Tree AV :=
  match ix.num,P.underlying t,x with
  | some (l,_,i),some (.array n e),.agg cs =>
    match l with
    | true=>match szOf P e with
      | some sz=>if 0≤i∧i < n then Tree.ofOption (partAV P e cs (i.toNat * sz)) else .fail
      | none=>.fail
    | false =>
      if isAggT P e || szOf P e != some 1 || cs.length != n then .fail else
      match selBools cs,selInts .i64 cs with
      | some bs,_=>.asrt (0≤i∧i < n) (.ret (.bool (bs.getD i.toNat false)))
      | none,some ns=>.asrt (0≤i∧i < n) (.ret (.int .i64 (ns.getD i.toNat 0)))
      | none,none=>.fail
  | some (_,_,i),some .string,.str s=>.asrt (0≤i∧i < s.length) (.ret (.int .u8 ((s.getD i.toNat 0).toNat:Int)))
  | _,_,_=>.fail
def boundV:Option AV→Option (Option (Bool × Int))
  | none=>some none
  | some a=>match a.num with | some (l,_,n)=>some (some (l,n)) | none=>none
def lowOf:Option (Bool × Int)→Int
  | some (_,n)=>n
  | none=>0
def highOf (hi:Option (Bool × Int)) (len:Int):Int :=
  match hi with
  | some (_,n)=>n
  | none=>len
def litOf:Option (Bool × Int)→Bool
  | some (l,_)=>l
  | none=>true
def sliceV (P:Program) (t:TypeId) (x:AV) (lo hi mx:Option AV):Tree AV :=
  match boundV lo,boundV hi,boundV mx with
  | some lo,some hi,some mx =>
    match P.underlying t with
    | some .string =>
      match x,mx with
      | .str s,none =>
        let l:=lowOf lo
        let h:=highOf hi (s.length:Int)
        .asrt (0≤l∧l≤h∧h≤s.length) (.ret (.str ((s.take h.toNat).drop l.toNat)))
      | _,_=>.fail
    | some (.slice e) =>
      match szOf P e with
      | none=>.fail
      | some sz =>
        match lo,hi,mx,x with
        | none,some (true,0),some (true,0),.view _ _=>.ret .nils
        | none,some (true,0),some (true,0),.own _=>.ret .nils
        | none,some (true,0),some (true,0),.slc _ _ _ _=>.ret .nils
        | none,some (true,0),some (true,0),.lv _ _=>.ret .nils
        | lo,hi,none,.nils =>
          need (litOf lo && litOf hi) (lowOf lo = 0∧lowOf hi = 0) (.ret .nils)
        | lo,some (lh,h),some (lm,m),.nils =>
          need (litOf lo && lh && lm) (lowOf lo = 0∧h = 0∧m = 0) (.ret .nils)
        | lo,hi,none,.view r xs =>
          if r.size = sz then
            let l:=lowOf lo
            let h:=highOf hi (xs.length:Int)
            .asrt (0≤l∧l≤h∧h≤xs.length) (.ret (.view r ((xs.take h.toNat).drop l.toNat)))
          else .fail
        | some (true,1),some (false,h),some (false,m),.view r xs =>
          if r.size = sz then .asrt (1≤h∧h = m∧m≤xs.length) (.ret (.fv r ((xs.take h.toNat).drop 1))) else .fail
        | lo,some (_,h),some (_,m),.view r xs =>
          if r.size = sz then
            let l:=lowOf lo
            .asrt (0≤l∧l≤h∧h≤m∧m≤xs.length) (.ret (.view r ((xs.take h.toNat).drop l.toNat)))
          else .fail
        | lo,hi,none,.slc b off n sz' =>
          let l:=lowOf lo
          let h:=highOf hi (n:Int)
          if litOf lo = true∧litOf hi = true∧sz' = sz∧0≤l∧l≤h∧h≤n∧(0 < off + l.toNat * sz∨h = n) then .ret (.slc b (off + l.toNat * sz) (h - l).toNat sz) else .fail
        | none,none,none,.own b=>.ret (.own b)
        | _,_,_,_=>.fail
    | some (.array n e) =>
      match szOf P e,lo,hi,mx,x with
      | some sz,none,none,none,.ptr b off=>.ret (.slc b off n sz)
      | _,_,_,_,_=>.fail
    | _=>.fail
  | _,_,_=>.fail
def mget {α:Type} (es:List (Int × α)) (k:Int):Option α :=
  match es with
  | []=>none
  | (j,x) :: es=>if j = k then some x else mget es k
def mput {α:Type} (es:List (Int × α)) (k:Int) (v:α):List (Int × α) :=
  match es with
  | []=>[(k,v)]
  | (j,x) :: es=>if j = k then (j,v) :: es else (j,x) :: mput es k v
def mdel {α:Type} (es:List (Int × α)) (k:Int):List (Int × α) :=
  match es with
  | []=>[]
  | (j,x) :: es=>if j = k then es else (j,x) :: mdel es k
def lget (es:List (AV × AV)) (k:Int):Option (Option AV) :=
  match es with
  | []=>some none
  | (.lit _ j,x) :: es=>if j = k then some (some x) else lget es k
  | _ :: _=>none
def AV.aggQ:AV→Bool
  | .agg _=>true
  | _=>false
def valAV (r:RTy) (x:r.carrier):AV :=
  match r.isAgg with
  | true=>.agg (r.enc x)
  | false=>(match r.enc x with | [c]=>c | _=>.any)
def lookupV (P:Program) (look:Nat→Option Blk) (t:TypeId) (x ix:AV) (ok:Bool):Tree AV :=
  match P.underlying t,x,ix.num with
  | some (.map kt e),.map b,some (l,.i64,i) =>
    match P.underlying kt with
    | some (.int .i64) =>
      (match zeroAV P e with
      | none=>.fail
      | some z =>
      match look b with
      | some (.imap r es) =>
        match r.dec z.cells with
        | some d =>
          if z.aggQ = r.isAgg then
            .ret (if ok then .tup [valAV r ((mget es i).getD d),.bool (mget es i).isSome] else valAV r ((mget es i).getD d))
          else .fail
        | none=>.fail
      | some (.lmap es) =>
        match l,lget es i with
        | true,some (some a)=>.ret (if ok then .tup [a,.blit true] else a)
        | true,some none=>.ret (if ok then .tup [z,.blit false] else z)
        | _,_=>.fail
      | _=>.fail)
    | _=>.fail
  | _,_,_=>.fail
def overlay (cs:List AV) (off:Nat) (vs:List AV):List AV:=cs.take off ++ vs ++ cs.drop (off + vs.length)
def fillV (place:Nat→Option (Nat × Nat)) (cs:List AV):List (Nat × AV)→Option (List AV)
  | []=>some cs
  | (i,v) :: rest =>
    match place i with
    | none=>none
    | some (off,size)=>if v.cells.length = size∧off + size≤cs.length then fillV place (overlay cs off v.cells) rest else none
def plainParts:List (Nat × AV)→Bool
  | []=>true
  | (_,.any) :: _=>false
  | (_,.tup _) :: _=>false
  | _ :: l=>plainParts l
def placesOf (P:Program) (fs:List Field):Option (List (Nat × Nat)):=fs.mapM fun f=>(P.info? f.type).map fun i=>(f.offset,i.size)
def buildV (P:Program) (t:TypeId) (parts:List (Nat × AV)):Tree AV :=
  if plainParts parts then
  match P.info? t with
  | none=>.fail
  | some it =>
    match it.zero with
    | none=>.fail
    | some z =>
      match P.underlying t with
      | some (.struct fs) =>
        match placesOf P fs.toList with
        | some places=>match fillV (fun i=>places[i]?) (ofValue z).cells parts with
          | some cs=>.ret (.agg cs)
          | none=>.fail
        | none=>.fail
      | some (.array _ e)=>match szOf P e with
        | some sz=>match fillV (fun i=>some (i * sz,sz)) (ofValue z).cells parts with
          | some cs=>.ret (.agg cs)
          | none=>.fail
        | none=>.fail
      | _=>.fail
  else .fail
def repeatCells (z:List AV):Nat→List AV
  | 0=>[]
  | n + 1=>repeatCells z n ++ z
def typeAssertV (P:Program) (x:AV) (asserted:TypeId) (ok:Bool):Tree AV :=
  match P.underlying asserted with
  | some (.interface _)=>.fail
  | none=>.fail
  | some _ =>
    match x with
    | .iface t v=>if t = asserted then .ret (if ok then .tup [v,.blit true] else v)
      else match ok,zeroAV P asserted with | true,some z=>.ret (.tup [z,.blit false]) | _,_=>.fail
    | .niliface=>match ok,zeroAV P asserted with | true,some z=>.ret (.tup [z,.blit false]) | _,_=>.fail
    | _=>.fail
def bytesOf (look:Nat→Option Blk):AV→Option (List Int)
  | .view (.int .u8) xs=>some xs
  | .nils=>some []
  | .own b=>match look b with | some (.rows (.int .u8) _ xs)=>some xs | _=>none
  | _=>none
def convertV (P:Program) (look:Nat→Option Blk) (src dst:TypeId) (x:AV):Tree AV :=
  match P.underlying src,P.underlying dst,x.num with
  | some _,some (.int k),some (l,_,n)=>.ret (mkInt l k (k.wrap n))
  | some (.slice e),some .string,none =>
    match P.underlying e with
    | some (.int .u8)=>match bytesOf look x with | some xs=>.ret (.str (xs.map fun n=>UInt8.ofNat n.toNat)) | none=>.fail
    | _=>.fail
  | some .string,some .string,none=>match x with | .str s=>.ret (.str s) | _=>.fail
  | _,_,_=>.fail
def lenV (P:Program) (look:Nat→Option Blk) (t:TypeId) (x:AV):Tree AV :=
  match P.underlying t with
  | some .string=>match x with | .str s=>.ret (.int .i64 (s.length:Int)) | _=>.fail
  | some (.array n _)=>.ret (.lit .i64 (n:Int))
  | some (.slice _) =>
    match x with
    | .view _ xs=>.ret (.int .i64 (xs.length:Int))
    | .nils=>.ret (.lit .i64 0)
    | .slc _ _ n _=>.ret (.lit .i64 (n:Int))
    | .lv n _=>.ret (.lit .i64 (n:Int))
    | .own b=>match look b with | some (.rows _ _ xs)=>.ret (.int .i64 (xs.length:Int)) | _=>.fail
    | _=>.fail
  | some (.map _ _) =>
    match x with
    | .nilmap=>.ret (.lit .i64 0)
    | .map b=>match look b with | some (.imap _ es)=>.ret (.int .i64 (es.length:Int)) | _=>.fail
    | _=>.fail
  | _=>.fail
def minI (x y:Int):Int:=if y < x then y else x
def maxI (x y:Int):Int:=if y > x then y else x
def foldNum (f:Int→Int→Int):AV→List AV→Tree AV
  | a,[]=>.ret a
  | a,b :: l =>
    match a.num,b.num with
    | some (la,k,x),some (lb,k',y)=>if k = k' then foldNum f (mkInt (la && lb) k (f x y)) l else .fail
    | _,_=>.fail
mutual
def AV.pureV:AV→Bool
  | .ptr _ _=>false
  | .rptr _ _ _ _=>false
  | .own _=>false
  | .slc _ _ _ _=>false
  | .map _=>false
  | .any=>true
  | .pv cs=>AV.pureL cs
  | .lv _ cs=>AV.pureL cs
  | .fn _ a b=>AV.pureL a && AV.pureL b
  | .iface _ v=>v.pureV
  | .agg cs=>AV.pureL cs
  | .tup cs=>AV.pureL cs
  | _=>true
def AV.pureL:List AV→Bool
  | []=>true
  | a :: l=>a.pureV && AV.pureL l
end
mutual
def AV.viewFree:AV→Bool
  | .pv _=>false
  | .lv _ _=>false
  | .view _ _=>false
  | .fv _ _=>false
  | .fn _ a b=>AV.viewFreeL a && AV.viewFreeL b
  | .iface _ v=>v.viewFree
  | .agg cs=>AV.viewFreeL cs
  | .tup cs=>AV.viewFreeL cs
  | _=>true
def AV.viewFreeL:List AV→Bool
  | []=>true
  | a :: l=>a.viewFree && AV.viewFreeL l
end
def RTy.free:RTy→Bool
  | .ints _=>false
  | .op=>false
  | _=>true
def blkFree:Blk→Bool
  | .cells cs=>AV.viewFreeL cs
  | .rows r _ _=>r.free
  | .imap r _=>r.free
  | .lmap _=>false
mutual
def AV.shift (k:Nat):AV→AV
  | .ptr b off=>.ptr (k + b) off
  | .rptr b r i off=>.rptr (k + b) r i off
  | .own b=>.own (k + b)
  | .slc b off n sz=>.slc (k + b) off n sz
  | .map b=>.map (k + b)
  | .fn f a b=>.fn f (AV.shiftL k a) (AV.shiftL k b)
  | .iface t v=>.iface t (v.shift k)
  | .agg cs=>.agg (AV.shiftL k cs)
  | .tup cs=>.tup (AV.shiftL k cs)
  | .pv cs=>.pv (AV.shiftL k cs)
  | .lv n cs=>.lv n (AV.shiftL k cs)
  | v=>v
def AV.shiftL (k:Nat):List AV→List AV
  | []=>[]
  | a :: l=>a.shift k :: AV.shiftL k l
end
def Blk.shift (k:Nat):Blk→Blk
  | .cells cs=>.cells (AV.shiftL k cs)
  | .lmap es=>.lmap (es.map fun (a,b)=>(a.shift k,b.shift k))
  | b=>b
mutual
def lowerV (look:Nat→Option Blk):Nat→AV→Option AV
  | 0,_=>none
  | d + 1,v =>
    match v with
    | .own b=>match look b with | some (.rows r _ xs)=>some (.view r xs) | _=>none
    | .slc b off n sz=>match look b with
      | some (.cells cs)=>if off + n * sz≤cs.length then (match lowerL look d ((cs.drop off).take (n * sz)) with | some l=>some (.lv n l) | none=>none) else none
      | _=>none
    | .ptr b off=>match look b with
      | some (.cells cs)=>if off≤cs.length then (match lowerL look d (cs.drop off) with | some l=>some (.pv l) | none=>none) else none
      | _=>none
    | .rptr _ _ _ _=>none
    | .map _=>some .any
    | .pv cs=>match lowerL look d cs with | some l=>some (.pv l) | none=>none
    | .lv n cs=>match lowerL look d cs with | some l=>some (.lv n l) | none=>none
    | .fn f a b=>match lowerL look d a,lowerL look d b with | some x,some y=>some (.fn f x y) | _,_=>none
    | .iface t v=>match lowerV look d v with | some x=>some (.iface t x) | none=>none
    | .agg cs=>match lowerL look d cs with | some l=>some (.agg l) | none=>none
    | .tup cs=>match lowerL look d cs with | some l=>some (.tup l) | none=>none
    | v=>some v
def lowerL (look:Nat→Option Blk):Nat→List AV→Option (List AV)
  | 0,_=>none
  | _ + 1,[]=>some []
  | d + 1,a :: l=>match lowerV look d a,lowerL look d l with | some x,some xs=>some (x :: xs) | _,_=>none
end
def recvAt (P:Program) (t:TypeId) (x:AV) (pointer:Bool):Option AV :=
  match P.underlying t,pointer with
  | some (.pointer _),true=>some x
  | some (.pointer _),false=>none
  | some _,false=>some x
  | _,_=>none
def callTo (P:Program) (ρ:Operand→AV) (c:Call):Option (Nat × List AV) :=
  match c.callee with
  | .value f =>
    match ρ f with
    | .fn (.func g) first captured=>some (g,first ++ c.args.toList.map ρ ++ captured)
    | .fn (.via t path g pointer) first _ =>
      if path.isEmpty then
        match first ++ c.args.toList.map ρ with
        | x :: rest=>match recvAt P t x pointer with | some x=>some (g,x :: rest) | none=>none
        | []=>none
      else none
    | _=>none
  | .invoke recv name =>
    match ρ recv with
    | .iface t v =>
      match P.info? t with
      | some i =>
        match i.methods.find? (·.name == name) with
        | some m =>
          match m.func with
          | some (g,pointer)=>if m.path.isEmpty then (match recvAt P t v pointer with | some x=>some (g,x :: c.args.toList.map ρ) | none=>none) else none
          | none=>none
        | none=>none
      | none=>none
    | _=>none
  | .builtin _=>none
def slcN (b n sz:Nat):AV:=match n with | 0=>.nils | k + 1=>.slc b 0 (k + 1) sz
def resD (C:Cfg) (base:Nat) (o:Oper) (ρ:Operand→AV) (look:Nat→Option Blk):Tree (AV × List Blk) :=
  let v (t:Tree AV):Tree (AV × List Blk):=t.bind fun a=>.ret (a,[])
  match o.op with
  | .move x=>v (.ret (ρ x))
  | .assign x=>v (.ret (ρ x))
  | .pick c a b=>v (pickV (ρ c) (ρ a) (ρ b))
  | .nilCheck x=>v (match ρ x with | .ptr b o=>.ret (.ptr b o) | .rptr b r i o=>.ret (.rptr b r i o) | .pv cs=>.ret (.pv cs) | .fn (.func f) a b=>.ret (.fn (.func f) a b) | _=>.fail)
  | .binOp op t x y _=>v (binOpV C.P op t (ρ x) (ρ y))
  | .unOp op _ x=>v (unOpV op (ρ x))
  | .convert s d x=>v (convertV C.P look s d (ρ x))
  | .makeInterface t x=>v (match C.P.underlying t with | some (.interface _)=>.fail | none=>.fail | some _=>.ret (.iface t (ρ x)))
  | .makeFunc f first captured=>v (.ret (.fn f (first.toList.map ρ) (captured.toList.map ρ)))
  | .fieldAddr s x f=>v (fieldAddrV C.P s (ρ x) f)
  | .field s x f=>v (fieldV C.P s (ρ x) f)
  | .load t x=>v (loadV C.P look t (ρ x))
  | .indexAddr t x i=>v (indexAddrV C.P look t (ρ x) (ρ i))
  | .index t x i=>v (indexV C.P t (ρ x) (ρ i))
  | .slice t x lo hi mx=>v (sliceV C.P t (ρ x) (lo.map ρ) (hi.map ρ) (mx.map ρ))
  | .lookup t x i ok=>v (lookupV C.P look t (ρ x) (ρ i) ok)
  | .extract t i=>v (match ρ t with | .tup vs=>(match vs[i]? with | some a=>.ret a | none=>.fail) | _=>.fail)
  | .typeAssert x _ t ok=>v (typeAssertV C.P (ρ x) t ok)
  | .build t parts=>v (buildV C.P t (parts.toList.map fun (i,x)=>(i,ρ x)))
  | .alloc t=>match zeroAV C.P t with
    | some z=>.ret (.ptr base 0,[.cells z.cells])
    | none=>.fail
  | .box _ x=>match ρ x with
    | .any=>.fail
    | .tup _=>.fail
    | a=>.ret (.ptr base 0,[.cells a.cells])
  | .buildSlice t n parts =>
    match C.P.underlying t with
    | some (.slice e) =>
      match szOf C.P e,zeroAV C.P e with
      | some (sz + 1),some z =>
        if n * (sz + 1)≤16777216∧z.cells.length = sz + 1∧plainParts (parts.toList.map fun (i,x)=>(i,ρ x)) = true then
          match fillV (fun i=>some (i * (sz + 1),sz + 1)) (repeatCells z.cells n) (parts.toList.map fun (i,x)=>(i,ρ x)) with
          | some cs=>.ret (slcN base n (sz + 1),[.cells cs])
          | none=>.fail
        else .fail
      | _,_=>.fail
    | _=>.fail
  | .makeMap t none =>
    match C.P.underlying t with
    | some (.map _ e)=>match C.rty e with
      | some r=>.ret (.map base,[.imap r []])
      | none=>.ret (.map base,[.lmap []])
    | _=>.fail
  | .call c =>
    match c.callee with
    | .builtin .len=>match c.argTypes[0]?,c.args[0]? with
      | some t,some x=>v (lenV C.P look t (ρ x))
      | _,_=>.fail
    | .builtin .min=>match c.args.toList.map ρ with | a :: l=>v (foldNum minI a l) | []=>.fail
    | .builtin .max=>match c.args.toList.map ρ with | a :: l=>v (foldNum maxI a l) | []=>.fail
    | .builtin _=>.fail
    | _ =>
      match callTo C.P ρ c with
      | some (g,args) =>
        match findPcon C.pcon g with
        | some f=>v (Tree.ofOption (f args))
        | none =>
          match findCon C.con g with
          | some con =>
            if AV.pureL args then (con args).bind fun r=>.ret (r.1.shift base,r.2.map (Blk.shift base))
            else match lowerL look 64 args with
              | some args=>(con args).bind fun r=>if r.1.viewFree && r.2.all blkFree then .ret (r.1.shift base,r.2.map (Blk.shift base)) else .fail
              | none=>.fail
          | none=>.fail
      | none=>.fail
  | _=>.fail
end Go.Fx
namespace Go.Fx
open Go
def insBlks:Nat→List Blk→Heap→Heap
  | _,[],h=>h
  | b,x :: l,h=>insBlks (b + 1) l (h.ins b x)
def memNat:Nat→List Nat→Bool
  | _,[]=>false
  | n,m :: l=>Nat.beq n m || memNat n l
def allOne:List AV→Bool
  | []=>true
  | a :: l=>a.oneCell && allOne l
def upd (r:RTy) (xs:List r.carrier) (i:Int) (x:r.carrier):List r.carrier:=xs.set i.toNat x
def storeX (P:Program) (t:TypeId) (a v:AV) (h:Heap):Tree Heap :=
  match szOf P t with
  | none=>.fail
  | some n =>
    if v.cells.length = n∧allOne v.cells = true then
      match a with
      | .ptr b off =>
        match h.get b with
        | some (.cells cs)=>if off + n≤cs.length then .ret (h.put b (.cells (overlay cs off v.cells))) else .fail
        | _=>.fail
      | .rptr b r i off =>
        match h.get b with
        | some (.rows r' e xs) =>
          if off + n≤r'.size∧r' = r then
            match r'.dec (overlay (r'.enc (rd r' xs i)) off v.cells) with
            | some x=>.asrt (0≤i∧i < xs.length) (.ret (h.put b (.rows r' e (upd r' xs i x))))
            | none=>.fail
          else .fail
        | _=>.fail
      | _=>.fail
    else .fail
def lput (es:List (AV × AV)) (k:Int) (v:AV):Option (List (AV × AV)) :=
  match es with
  | []=>some [(.lit .i64 k,v)]
  | (.lit kk j,x) :: es=>if j = k then none else (match lput es k v with | some l=>some ((.lit kk j,x) :: l) | none=>none)
  | _ :: _=>none
def mapUpdX (P:Program) (t:TypeId) (m k v:AV) (h:Heap):Tree Heap :=
  match P.underlying t,m,k.num with
  | some (.map kt _),.map b,some (l,.i64,i) =>
    match P.underlying kt with
    | some (.int .i64) =>
      (match h.get b with
      | some (.imap r es)=>match r.dec v.cells with
        | some y=>if allOne v.cells = true∧v.aggQ = r.isAgg then .ret (h.put b (.imap r (mput es i y))) else .fail
        | none=>.fail
      | some (.lmap es)=>match l,lput es i v with
        | true,some es'=>if plainParts [(0,v)] = true then .ret (h.put b (.lmap es')) else .fail
        | _,_=>.fail
      | _=>.fail)
    | _=>.fail
  | _,_,_=>.fail
def delX (P:Program) (t:TypeId) (m k:AV) (h:Heap):Tree Heap :=
  match P.underlying t,m,k.num with
  | some (.map kt _),.map b,some (_,.i64,i) =>
    match P.underlying kt with
    | some (.int .i64) =>
      (match h.get b with
      | some (.imap r es)=>.ret (h.put b (.imap r (mdel es i)))
      | _=>.fail)
    | _=>.fail
  | _,_,_=>.fail
def srcRows (look:Nat→Option Blk) (r:RTy):AV→Option (List r.carrier)
  | .own b=>match look b with | some (.rows r' _ xs)=>castL r r' xs | _=>none
  | .slc b off n sz=>match look b with
    | some (.cells cs)=>if r.size = sz∧off + n * sz≤cs.length then decRows r n ((cs.drop off).take (n * sz)) else none
    | _=>none
  | v=>v.asView r
def sameBlk (b:Nat):AV→Bool
  | .own b'=>Nat.beq b b'
  | .slc b' _ _ _=>Nat.beq b b'
  | _=>false
def appendX (C:Cfg) (t t2:TypeId) (s x:AV) (lookS look:Nat→Option Blk):Tree (Option Nat × Blk) :=
  match C.P.underlying t with
  | some (.slice e) =>
    if t = t2 then
    match C.rty e,C.P.info? e,zeroAV C.P e with
    | some r,some inf,some z =>
      if inf.size = r.size∧z.cells.length = r.size∧0 < r.size∧0 < inf.bytes then
        match srcRows look r x with
        | none=>.fail
        | some ys =>
          match s with
          | .nils=>.asrt (([] ++ ys).length * inf.bytes≤140737488355328) (.ret (none,.rows r e ([] ++ ys)))
          | .own b =>
            match lookS b with
            | some (.rows r' e' xs) =>
              match castL r r' xs with
              | some xs=>if e' = e∧sameBlk b x = false then .asrt ((xs ++ ys).length * inf.bytes≤140737488355328) (.ret (some b,.rows r e (xs ++ ys))) else .fail
              | none=>.fail
            | _=>.fail
          | .slc b off n sz =>
            match lookS b with
            | some (.cells cs) =>
              if off = 0∧sz = r.size∧n * sz = cs.length∧0 < n then
                match decRows r n cs with
                | some xs=>.asrt (ys≠[]∧(xs ++ ys).length * inf.bytes≤140737488355328) (.ret (none,.rows r e (xs ++ ys)))
                | none=>.fail
              else .fail
            | _=>.fail
          | .fv r' xs =>
            match castL r r' xs with
            | some xs=>.asrt (ys≠[]∧(xs ++ ys).length * inf.bytes≤140737488355328) (.ret (none,.rows r e (xs ++ ys)))
            | none=>.fail
          | _=>.fail
      else .fail
    | _,_,_=>.fail
    else .fail
  | _=>.fail
def delOpt (h:Heap):Option Nat→Heap
  | some b=>h.del b
  | none=>h
def resultAV (P:Program) (look:Nat→Option Blk) (ts:List AV):List ResultVar→Option (List AV)
  | []=>some []
  | .tmp t :: l=>match resultAV P look ts l with | some vs=>some (nth ts t :: vs) | none=>none
  | .cell a t :: l =>
    match loadV P look t (nth ts a),resultAV P look ts l with
    | .ret v,some vs=>some (v :: vs)
    | _,_=>none
def oneOrTup:List AV→AV
  | [v]=>v
  | vs=>.tup vs
abbrev Run:=Nat→Code→St→Tree (Ex × St)
def inlineX (C:Cfg) (self:Run) (g:Nat) (args:List AV) (h:Heap) (next:Nat):Tree (AV × Heap × Nat) :=
  match C.P.funcs[g]? with
  | none=>.fail
  | some fn =>
    match fn.body with
    | none=>.fail
    | some body =>
      if fn.name == "runtime.NumGoroutine" then .fail else
      (self g body { tmps:=args ++ List.replicate (fn.ntmps - args.length) .any,heap:=h,next:=next }).bind fun r =>
        match r.1 with
        | .normal | .ret =>
          match resultAV C.P r.2.heap.get r.2.tmps fn.results.toList with
          | some vs=>.ret (oneOrTup vs,r.2.heap,r.2.next)
          | none=>.fail
        | _=>.fail
def effOp (C:Cfg) (o:Oper) (ρ:Operand→AV):Bool :=
  match o.op with
  | .store _ _ _ | .mapUpdate _ _ _ _ | .insert _ _ _ _=>true
  | .call c =>
    match c.callee with
    | .builtin .append=>true
    | .builtin .delete=>true
    | .builtin _=>false
    | _=>match callTo C.P ρ c with
      | some (g,_)=>(findPcon C.pcon g).isNone && (findCon C.con g).isNone
      | none=>true
  | _=>false
def effR (C:Cfg) (self:Run) (o:Oper) (ρ:Operand→AV) (h:Heap) (next:Nat):Tree (AV × Heap × Nat) :=
  let u (t:Tree Heap):Tree (AV × Heap × Nat):=t.bind fun h'=>.ret (.any,h',next)
  match o.op with
  | .store t a x=>u (storeX C.P t (ρ a) (ρ x) h)
  | .mapUpdate t m k x=>u (mapUpdX C.P t (ρ m) (ρ k) (ρ x) h)
  | .insert t m k x=>u (mapUpdX C.P t (ρ m) (ρ k) (ρ x) h)
  | .call c =>
    match c.callee with
    | .builtin .append =>
      match c.args.toList,c.argTypes.toList with
      | [s,x],[t,t2]=>(appendX C t t2 (ρ s) (ρ x) h.get h.get).bind fun r=>.ret (.own next,(delOpt h r.1).ins next r.2,next + 1)
      | _,_=>.fail
    | .builtin .delete =>
      match c.args.toList,c.argTypes.toList with
      | [m,k],t :: _=>u (delX C.P t (ρ m) (ρ k) h)
      | _,_=>.fail
    | .builtin _=>.fail
    | _ =>
      match callTo C.P ρ c with
      | some (g,args)=>inlineX C self g args h next
      | none=>.fail
  | _=>.fail
def resR (C:Cfg) (o:Oper) (ρ:Operand→AV) (h:Heap) (next:Nat):Tree (AV × Heap × Nat) :=
  (resD C next o ρ h.get).bind fun r=>.ret (r.1,insBlks next r.2 h,next + r.2.length)
def isGuard (ops:Array Oper) (i:Nat):Bool:=ops.any fun o=>match o.guard with | some (j,_)=>Nat.beq i j | none=>false
def putG (g:Bool) (dst:Option Nat) (r:AV × Heap × Nat) (ts:List AV):Tree St :=
  match g,r.1 with
  | true,.bool b=>.ite b (.ret { tmps:=putT dst (.blit true) ts,heap:=r.2.1,next:=r.2.2 }) (.ret { tmps:=putT dst (.blit false) ts,heap:=r.2.1,next:=r.2.2 })
  | _,v=>.ret { tmps:=putT dst v ts,heap:=r.2.1,next:=r.2.2 }
def wantedV (ops:Array Oper) (o:Oper) (ts:List AV):Option Bool :=
  match o.guard with
  | none=>some true
  | some (j,want) =>
    match ops[j]? with
    | none=>none
    | some oj =>
      match oj.dst with
      | none=>none
      | some d =>
        match nth ts d with
        | .blit b=>some (match want,b with | true,true=>true | false,false=>true | _,_=>false)
        | .tup []=>some false
        | _=>none
def stepW (ops:Array Oper) (i:Nat) (o:Oper) (σ:St) (t:Tree (AV × Heap × Nat)):Tree St :=
  match wantedV ops o σ.tmps with
  | none=>.fail
  | some false=>.ret { σ with tmps:=putT o.dst (.tup []) σ.tmps }
  | some true=>t.bind fun r=>putG (isGuard ops i) o.dst r σ.tmps
def cutOp (C:Cfg) (o:Oper) (ρ:Operand→AV):Bool :=
  match o.op with
  | .slice t x _ _ _=>memNat t C.cuts && (match ρ x with | .own _=>true | _=>false)
  | .call c =>
    match c.callee with
    | .builtin .clear=>true
    | .builtin .append=>match c.args.toList,c.argTypes.toList with
      | [s,x],[t,_]=>memNat t C.cuts && (match ρ s,ρ x with | .slc _ _ _ _,.nils=>true | _,_=>false)
      | _,_=>false
    | .builtin _=>false
    | _=>match C.eat with
      | []=>false
      | _=>match callTo C.P ρ c with
        | some (g,_)=>(findEat C.eat g).isSome && ((findPcon C.pcon g).isNone && (findCon C.con g).isNone)
        | none=>false
  | _=>false
def cutR (C:Cfg) (o:Oper) (ρ:Operand→AV) (h:Heap) (next:Nat):Tree (AV × Heap × Nat) :=
  match o.op with
  | .slice t x lo hi mx =>
    match ρ x,C.P.underlying t with
    | .own b,some (.slice e) =>
      match h.get b,szOf C.P e with
      | some (.rows r e' xs),some sz =>
        if sz = r.size∧1 < sz then
          match boundV (lo.map ρ),boundV (hi.map ρ),boundV (mx.map ρ) with
          | some (some (_,i)),some none,some none=>.asrt (0≤i∧i≤xs.length∧0 < xs.length) (.ret (.slc b (i.toNat * r.size) (xs.length - i.toNat) r.size,h,next))
          | some none,some (some (_,i)),some none=>.asrt (0≤i∧i≤xs.length∧0 < xs.length) (.ret (.own next,(h.del b).ins next (.rows r e' (xs.take i.toNat)),next + 1))
          | _,_,_=>.fail
        else .fail
      | _,_=>.fail
    | _,_=>.fail
  | .call c =>
    match c.callee with
    | .builtin .clear =>
      match c.args.toList,c.argTypes.toList with
      | [x],[t] =>
        match ρ x,C.P.underlying t with
        | .slc b off n _,some (.slice e) =>
          match h.get b,zeroAV C.P e with
          | some (.rows r e' xs),some z =>
            match r.dec z.cells with
            | some d =>
              if z.cells.length = r.size∧0 < r.size∧allOne z.cells = true then
                .asrt (off = (xs.length - n) * r.size∧n≤xs.length) (.ret (.any,h.put b (.rows r e' (xs.take (xs.length - n) ++ List.replicate n d)),next))
              else .fail
            | none=>.fail
          | _,_=>.fail
        | _,_=>.fail
      | _,_=>.fail
    | .builtin .append =>
      match c.args.toList,c.argTypes.toList with
      | [s,x],[t,t2] =>
        match ρ s,ρ x,C.P.underlying t with
        | .slc b off n sz,.nils,some (.slice e)=>if t2 = t∧(C.P.info? e).isSome = true then .ret (.slc b off n sz,h,next) else .fail
        | _,_,_=>.fail
      | _,_=>.fail
    | .builtin _=>.fail
    | _=>match callTo C.P ρ c with
      | some (g,.own b :: rest) =>
        match findEat C.eat g,h.get b with
        | some E,some (.rows r e xs)=>match (if AV.pureL rest then some rest else lowerL (fun id=>if id = b then none else h.get id) 64 rest) with | some rest=>(E e (.view r xs :: rest)).bind fun blk=>.ret (.own next,(h.del b).ins next blk,next + 1) | none=>.fail
        | _,_=>.fail
      | _=>.fail
  | _=>.fail
def stepX (C:Cfg) (self:Run) (ops:Array Oper) (i:Nat) (o:Oper) (σ:St):Tree St :=
  stepW ops i o σ (if cutOp C o (evO σ.tmps) then cutR C o (evO σ.tmps) σ.heap σ.next else if effOp C o (evO σ.tmps) then effR C self o (evO σ.tmps) σ.heap σ.next else resR C o (evO σ.tmps) σ.heap σ.next)
def runOps (C:Cfg) (self:Run) (ops:Array Oper):Nat→List Oper→St→Tree St
  | _,[],σ=>.ret σ
  | i,o :: l,σ=>(stepX C self ops i o σ).bind (runOps C self ops (i + 1) l)
def tmpsIn (o:Oper):List Nat:=o.op.operands.toList.filterMap fun | .tmp t=>some t | _=>none
def guardSlot (ops:Array Oper) (o:Oper):List Nat :=
  match o.guard with
  | some (j,_)=>(match ops[j]? with | some oj=>oj.dst.toList | none=>[])
  | none=>[]
def apart1 (ops:Array Oper) (a b:Oper):Bool :=
  match a.dst with
  | none=>true
  | some d=>!(memNat d (tmpsIn b)) && !(memNat d (guardSlot ops b)) && (match b.dst with | some d'=>!(Nat.beq d d') | none=>true)
def apartT (ops:Array Oper) (x y:Oper):Bool:=apart1 ops x y && apart1 ops y x
def maskStep (acc:List Nat) (o:Oper):Nat :=
  o.after.toList.foldl (fun s e=>if Region.binds .any e then (s ||| 2 ^ e.on) ||| acc.getD e.on 0 else s) 0
def masks (ops:List Oper):List Nat:=ops.foldl (fun acc o=>acc ++ [maskStep acc o]) []
def slotOp (o:Oper):Bool :=
  match o.op with
  | .move _ | .assign _ | .pick _ _ _ | .nilCheck _ | .binOp _ _ _ _ _ | .unOp _ _ _ | .makeInterface _ _ | .makeFunc _ _ _
  | .fieldAddr _ _ _ | .field _ _ _ | .index _ _ _ | .slice _ _ _ _ _ | .extract _ _ | .typeAssert _ _ _ _ | .build _ _=>true
  | .call c=>(match c.callee with | .builtin .min=>true | .builtin .max=>true | _=>false)
  | _=>false
def storeOp (o:Oper):Bool :=
  match o.op with
  | .store _ _ _=>true
  | .call c=>(match c.callee with | .builtin .append=>true | _=>false)
  | _=>false
def fullAt (ops:List Oper) (ms:List Nat) (i:Nat):Bool :=
  (List.range ops.length).all fun k=>Nat.beq k i || (ms.getD i 0).testBit k || (ms.getD k 0).testBit i || (match ops[k]? with | some o=>slotOp o | none=>true)
def drawOk (ops:Array Oper) (ms:List Nat):Bool :=
  Region.noSelect ops &&
  ((List.range ops.size).all fun j=>match ops[j]? with
    | some o=>(o.after.toList.all fun e=>!Region.binds .any e || decide (e.on < j)) && (match o.guard with | some (g,_)=>(ms.getD j 0).testBit g | none=>true)
    | none=>false) &&
  (List.range ops.size).all fun j=>(List.range j).all fun i =>
    (ms.getD j 0).testBit i || (match ops[i]?,ops[j]? with
      | some x,some y=>apartT ops x y && !(storeOp x && storeOp y)
      | _,_=>false)
def rootOf (ops:List Oper) (next:Nat) (ts:List AV):Nat→Operand→List Nat
  | 0,_=>[]
  | n + 1,.tmp t =>
    match ops.zipIdx.find? (fun p=>match p.1.dst with | some d=>Nat.beq d t | none=>false) with
    | some (o,i)=>match o.op with
      | .move x=>rootOf ops next ts n x
      | .nilCheck x=>rootOf ops next ts n x
      | .fieldAddr _ x _=>rootOf ops next ts n x
      | .alloc _=>[next + 8 * i]
      | .call c=>(match c.callee with | .builtin .append=>[next + 8 * i] | _=>[])
      | _=>[]
    | none=>match nth ts t with | .ptr b _=>[b] | .own b=>[b] | _=>[]
  | _,_=>[]
def freeBlks (ops:List Oper) (ms:List Nat) (next:Nat) (ts:List AV):List Nat :=
  ops.zipIdx.flatMap fun p =>
    if fullAt ops ms p.2 then [] else
    match p.1.op with
    | .store _ a _=>rootOf ops next ts 8 a
    | .call c=>(match c.callee,c.args[0]? with | .builtin .append,some a=>rootOf ops next ts 8 a | _,_=>[])
    | _=>[]
def allowed (mask next id:Nat):Bool:=Nat.blt id next || mask.testBit ((id - next) / 8)
def seen (X:List Nat) (mask next:Nat) (h:Heap) (id:Nat):Option Blk:=if allowed mask next id && !(memNat id X) then h.get id else none
def ascH:Nat→Heap→Bool
  | _,[]=>true
  | n,(b,_) :: h=>Nat.ble n b && ascH b h
def isConCall (o:Oper):Bool :=
  match o.op with
  | .call c=>(match c.callee with | .builtin _=>false | _=>true)
  | _=>false
def drawR (C:Cfg) (self:Run) (ops:Array Oper) (X:List Nat) (ms:List Nat) (next i:Nat) (o:Oper) (ρ:Operand→AV) (h:Heap) (n:Nat):Tree (AV × Heap × Nat) :=
  if effOp C o ρ then
    if fullAt ops.toList ms i then effR C self o ρ h n
    else match o.op with
      | .store t a x =>
        (match ρ a with
        | .ptr b off=>if memNat b X && allowed (ms.getD i 0) next b then (storeX C.P t (.ptr b off) (ρ x) h).bind fun h=>.ret (.any,h,n) else .fail
        | _=>.fail)
      | .call c =>
        (match c.callee,c.args.toList,c.argTypes.toList with
        | .builtin .append,[s,x],[t,t2] =>
          (appendX C t t2 (ρ s) (ρ x) (fun id=>if allowed (ms.getD i 0) next id then h.get id else none) (seen X (ms.getD i 0) next h)).bind fun r =>
            match r.1 with
            | some b=>if memNat b X && ascH 0 h then .ret (.own (next + 8 * i),(h.del b).ins (next + 8 * i) r.2,n) else .fail
            | none=>.ret (.own (next + 8 * i),h.ins (next + 8 * i) r.2,n)
        | _,_,_=>.fail)
      | _=>.fail
  else if isConCall o && fullAt ops.toList ms i then resR C o ρ h n
  else (resD C (next + 8 * i) o ρ (seen X (ms.getD i 0) next h)).bind fun r =>
    if r.2.length≤8 then .ret (r.1,insBlks (next + 8 * i) r.2 h,n) else .fail
def drawStep (C:Cfg) (self:Run) (ops:Array Oper) (X:List Nat) (ms:List Nat) (next i:Nat) (σ:St):Tree St :=
  match ops[i]? with
  | some o=>stepW ops i o σ (drawR C self ops X ms next i o (evO σ.tmps) σ.heap σ.next)
  | none=>.fail
def drawOps (C:Cfg) (self:Run) (ops:Array Oper) (X:List Nat) (ms:List Nat) (next:Nat):List Nat→St→Tree St
  | [],σ=>.ret σ
  | i :: l,σ=>(drawStep C self ops X ms next i σ).bind (drawOps C self ops X ms next l)
def regionX (C:Cfg) (self:Run) (ops:Array Oper) (draw:Bool) (σ:St):Tree St :=
  match draw with
  | false=>runOps C self ops 0 ops.toList σ
  | true =>
    let ms:=masks ops.toList
    if drawOk ops ms then
      drawOps C self ops (freeBlks ops.toList ms σ.next σ.tmps) ms σ.next (List.range ops.size) { σ with next:=σ.next + 8 * ops.size }
    else .fail
def neutralOp (C:Cfg) (o:Oper):Bool :=
  match o.op with
  | .move _ | .assign _ | .pick _ _ _ | .nilCheck _ | .binOp _ _ _ _ _ | .unOp _ _ _ | .convert _ _ _ | .makeInterface _ _ | .makeFunc _ _ _
  | .fieldAddr _ _ _ | .field _ _ _ | .load _ _ | .indexAddr _ _ _ | .index _ _ _ | .lookup _ _ _ _ | .extract _ _ | .typeAssert _ _ _ _ | .build _ _=>true
  | .slice t _ _ _ _=>!(memNat t C.cuts)
  | .call c =>
    match c.callee with
    | .builtin .len=>true
    | .builtin .min=>true
    | .builtin .max=>true
    | .value (.func f)=>memNat f C.quiet
    | _=>false
  | _=>false
def neutralCode (C:Cfg):Code→Bool
  | .skip=>true
  | .region _ ops _=>ops.toList.all (neutralOp C)
  | .seq a b=>neutralCode C a && neutralCode C b
  | .cond _ a b=>neutralCode C a && neutralCode C b
  | _=>false
def dstsOf (ops:List Oper):List Nat:=ops.filterMap (·.dst)
def condSlot:Operand→List Nat
  | .tmp t=>[t]
  | _=>[]
def writesOf:Code→List Nat
  | .region _ ops _=>dstsOf ops.toList
  | .seq a b=>writesOf a ++ writesOf b
  | .cond c a b=>condSlot c ++ (writesOf a ++ writesOf b)
  | _=>[]
def bumpOf:Code→Nat
  | .region _ ops draw=>if draw then 8 * ops.size else 0
  | .seq a b=>bumpOf a + bumpOf b
  | .cond _ a b=>bumpOf a + bumpOf b
  | _=>0
def collapse (ts0:List AV):Tree (List AV)→List Prop × List AV
  | .ret l=>([],l)
  | .fail=>([False],ts0)
  | .asrt p t=>let r:=collapse ts0 t; (p :: r.1,r.2)
  | .ite c t e =>
    let r:=collapse ts0 t
    let s:=collapse ts0 e
    ((r.1.map fun p=>(c = true→p)) ++ (s.1.map fun p=>(c = false→p)),List.zipWith (joinAny c) r.2 s.2)
def mergeT (ds:List Nat):Nat→List AV→List AV→List AV
  | _,[],_=>[]
  | _,a :: l,[]=>a :: l
  | i,a :: l,b :: m=>(if memNat i ds then b else a) :: mergeT ds (i + 1) l m
def asrts {α:Type}:List Prop→Tree α→Tree α
  | [],t=>t
  | p :: l,t=>.asrt p (asrts l t)
def Tree.plain {α:Type}:Tree α→Bool
  | .ret _=>true
  | .fail=>true
  | .asrt _ t=>t.plain
  | .ite _ _ _=>false
def joinSt (c:Code) (σ:St) (t:Tree (Ex × St)):Tree (Ex × St) :=
  if t.plain then t else
  let r:=collapse σ.tmps (t.bind fun r=>.ret r.2.tmps)
  asrts r.1 (.ret (.normal,{ tmps:=mergeT (writesOf c) 0 σ.tmps r.2,heap:=σ.heap,next:=σ.next + bumpOf c }))
def joinIf (C:Cfg) (c:Code) (σ:St) (t:Tree (Ex × St)):Tree (Ex × St):=if neutralCode C c then joinSt c σ t else t
def firstLabel:Code→Option Nat
  | .seq a b=>match firstLabel a with | some l=>some l | none=>firstLabel b
  | .label l=>some l
  | _=>none
def firstRegion:Code→Nat
  | .region id _ _=>id
  | .seq a _=>firstRegion a
  | .block _ a=>firstRegion a
  | .loop a=>firstRegion a
  | .scope a=>firstRegion a
  | _=>0
def setCond (c:Operand) (b:Bool) (ts:List AV):List AV:=match c with | .tmp t=>setNth ts t (.blit b) | _=>ts
def execF (C:Cfg) (self:Run) (f:Nat) (c:Code) (σ:St):Tree (Ex × St) :=
  match c with
  | .skip=>.ret (.normal,σ)
  | .region _ ops draw=>joinIf C c σ ((regionX C self ops draw σ).bind fun σ=>.ret (.normal,σ))
  | .seq a b=>(self f a σ).bind fun r=>match r.1 with | .normal=>self f b r.2 | e=>.ret (e,r.2)
  | .cond x a b =>
    match evO σ.tmps x with
    | .blit true=>self f a σ
    | .blit false=>self f b σ
    | .bool y=>joinIf C c σ (.ite y (self f a { σ with tmps:=setCond x true σ.tmps }) (self f b { σ with tmps:=setCond x false σ.tmps }))
    | _=>.fail
  | .block id body=>(self f body σ).bind fun r=>match r.1 with | .exit i=>(if i = id then .ret (.normal,r.2) else .ret r) | _=>.ret r
  | .loop body =>
    match findLoop C.loops f (firstRegion body) with
    | some L=>L σ
    | none=>(self f body σ).bind fun r=>match r.1 with | .normal=>self f (.loop body) r.2 | e=>.ret (e,r.2)
  | .exit id=>.ret (.exit id,σ)
  | .ret=>.ret (.ret,σ)
  | .label _=>.ret (.normal,σ)
  | .goto l=>.ret (.goto l,σ)
  | .scope c=>(self f c σ).bind fun r=>match r.1 with
    | .goto l=>if firstLabel c = some l then (match findLoop C.jumps f l with | some L=>L r.2 | none=>.fail) else .fail
    | e=>.ret (e,r.2)
  | _=>.fail
def exec (C:Cfg) (n:Nat):Run :=
  Nat.rec (fun _ _ _=>.fail) (fun _ ih=>execF C ih) n
mutual
def AV.ids:AV→List Nat
  | .ptr b _=>[b]
  | .rptr b _ _ _=>[b]
  | .own b=>[b]
  | .slc b _ _ _=>[b]
  | .map b=>[b]
  | .pv cs=>AV.idsL cs
  | .lv _ cs=>AV.idsL cs
  | .fn _ a b=>AV.idsL a ++ AV.idsL b
  | .iface _ v=>v.ids
  | .agg cs=>AV.idsL cs
  | .tup cs=>AV.idsL cs
  | _=>[]
def AV.idsL:List AV→List Nat
  | []=>[]
  | a :: l=>a.ids ++ AV.idsL l
end
def idsBlk:Blk→List Nat
  | .cells cs=>AV.idsL cs
  | .rows _ _ _=>[]
  | .imap _ _=>[]
  | .lmap es=>AV.idsL (es.map (·.2))
def Heap.keep (ids:List Nat):Heap→Heap
  | []=>[]
  | (b,x) :: h=>if memNat b ids then (b,x) :: Heap.keep ids h else Heap.keep ids h
def idsHeap:Heap→List Nat
  | []=>[]
  | (_,x) :: h=>idsBlk x ++ idsHeap h
def gcH:Nat→List Nat→Heap→Heap
  | 0,ids,h=>h.keep ids
  | n + 1,ids,h=>gcH n (ids ++ idsHeap (h.keep ids)) h
end Go.Fx
namespace Go.Fx
open Go Go.RowKit
theorem Tree.wp_mono {α:Type} {t:Tree α} {Q Q':α→Prop} (h:t.wp Q) (hq:∀ a,Q a→Q' a):t.wp Q':=by
  induction t with
  | ret a=>exact hq a h
  | fail=>exact h
  | ite c t e iht ihe=>exact ⟨fun hc=>iht (h.1 hc),fun hc=>ihe (h.2 hc)⟩
  | asrt p t ih=>exact ⟨h.1,ih h.2⟩
theorem Tree.wp_bind {α β:Type} {t:Tree α} {f:α→Tree β} {Q:β→Prop}:(t.bind f).wp Q↔t.wp fun a=>(f a).wp Q:=by
  induction t with
  | ret a=>exact Iff.rfl
  | fail=>exact Iff.rfl
  | ite c t e iht ihe=>simp only [Tree.bind,Tree.wp,iht,ihe]
  | asrt p t ih=>simp only [Tree.bind,Tree.wp,ih]
theorem Tree.wp_out {α:Type} {t:Tree α} {Q:α→Prop}:t.wp Q↔∃ a,t.Out a∧Q a:=by
  induction t with
  | ret a=>exact ⟨fun h=>⟨a,rfl,h⟩,fun ⟨b,hb,h⟩=>by cases hb; exact h⟩
  | fail=>exact ⟨fun h=>h.elim,fun ⟨_,h,_⟩=>h.elim⟩
  | ite c t e iht ihe =>
    simp only [Tree.wp,Tree.Out]
    cases c with
    | true=>simp [iht]
    | false=>simp [ihe]
  | asrt p t ih =>
    simp only [Tree.wp,Tree.Out,ih]
    exact ⟨fun ⟨hp,a,h,q⟩=>⟨a,⟨hp,h⟩,q⟩,fun ⟨a,⟨hp,h⟩,q⟩=>⟨hp,a,h,q⟩⟩
theorem Tree.wp_of_out {α:Type} {t:Tree α} {Q:α→Prop} {a:α} (h:t.Out a) (hq:Q a):t.wp Q:=Tree.wp_out.2 ⟨a,h,hq⟩
theorem Tree.out_of_wp {α:Type} {t:Tree α} {a:α} (h:t.wp (fun x=>x = a)):t.Out a:=by
  obtain ⟨b,hb,rfl⟩:=Tree.wp_out.1 h
  exact hb
theorem need_wp {α:Type} {l:Bool} {p:Prop} [Decidable p] {t:Tree α} {Q:α→Prop} (h:(need l p t).wp Q):p∧t.wp Q:=by
  cases l with
  | true =>
    by_cases hp:p
    · simp only [need,if_pos hp] at h; exact ⟨hp,h⟩
    · simp only [need,if_neg hp] at h; exact h.elim
  | false=>exact h
theorem ofOption_wp {α:Type} {o:Option α} {Q:α→Prop} (h:(Tree.ofOption o).wp Q):∃ a,o = some a∧Q a:=by
  cases o with
  | none=>exact h.elim
  | some a=>exact ⟨a,rfl,h⟩
structure Slot where
  alive:Bool
  blk:Option Nat
  cap:Nat
  len:Nat
def Slot.kill (s:Slot):Slot:={ s with alive:=false }
abbrev Env:=Nat→Option Slot
def Env.none:Env:=fun _=>Option.none
def Own (φ:Env) (B:Nat):Prop:=∃ id cap len,φ id = some ⟨true,some B,cap,len⟩
def Stab (w:World) (S:Nat→Prop) (φ:Env) (B:Nat):Prop:=B < w.heap.size∧¬ S B∧¬ Own φ B
def cellsAt (w:World) (B o:Nat) (us:List Value):Prop:=∀ j u,us[j]? = some u→w.cell? ⟨B,o + j,none⟩ = some u
def PtrOK (φ:Env) (b off:Nat) (v:Value):Prop:=∃ s B,φ b = some s∧s.blk = some B∧v = .pointer (some ⟨B,off,none⟩)
def RptrOK (φ:Env) (b:Nat) (r:RTy) (i:Int) (off:Nat) (v:Value):Prop:=∃ s B,φ b = some s∧s.blk = some B∧v = .pointer (some ⟨B,i.toNat * r.size + off,none⟩)
def baseOf (B:Option Nat):Option Addr:=B.map fun b=>⟨b,0,none⟩
def Slot.fits (s:Slot) (v:Value):Prop :=
  match s.blk with
  | some B=>v = .slice (some ⟨B,0,none⟩) s.len s.cap
  | none=>∃ a,v = .slice a 0 0
def OwnOK (φ:Env) (b:Nat) (v:Value):Prop:=∃ s,φ b = some s∧s.fits v
theorem Slot.fits_slice {s:Slot} {v:Value} (h:s.fits v):∃ a len cap,v = .slice a len cap:=by
  unfold Slot.fits at h
  split at h
  · exact ⟨_,_,_,h⟩
  · obtain ⟨a,h⟩:=h; exact ⟨_,_,_,h⟩
def SlcOK (φ:Env) (b off n sz:Nat) (v:Value):Prop :=
  ∃ s B c,φ b = some s∧s.blk = some B∧((n = 0∧∃ a,v = .slice a 0 c)∨(n≤c∧(off = 0→n * sz = s.len→c = n)∧v = .slice (some ⟨B,off,none⟩) n c))
def MapOK (φ:Env) (b:Nat) (v:Value):Prop:=∃ s B,φ b = some s∧s.blk = some B∧v = .map (some B)
inductive Reps (w:World) (S:Nat→Prop) (φ:Env):List AV→List Value→Prop
  | nil:Reps w S φ [] []
  | any {as vs} (v:Value):Reps w S φ as vs→Reps w S φ (.any :: as) (v :: vs)
  | lit {as vs} (k:IntKind) (n:Int):Reps w S φ as vs→Reps w S φ (.lit k n :: as) (.int k n :: vs)
  | int {as vs} (k:IntKind) (n:Int):Reps w S φ as vs→Reps w S φ (.int k n :: as) (.int k n :: vs)
  | blit {as vs} (b:Bool):Reps w S φ as vs→Reps w S φ (.blit b :: as) (.bool b :: vs)
  | bool {as vs} (b:Bool):Reps w S φ as vs→Reps w S φ (.bool b :: as) (.bool b :: vs)
  | str {as vs} (s:ByteArray):Reps w S φ as vs→Reps w S φ (.str s.data.toList :: as) (.string s :: vs)
  | nilp {as vs}:Reps w S φ as vs→Reps w S φ (.nilp :: as) (.pointer none :: vs)
  | ptr {as vs b off v} (h:PtrOK φ b off v):Reps w S φ as vs→Reps w S φ (.ptr b off :: as) (v :: vs)
  | rptr {as vs b r i off v} (h:RptrOK φ b r i off v):Reps w S φ as vs→Reps w S φ (.rptr b r i off :: as) (v :: vs)
  | pv {as vs cs us B o} (hs:Stab w S φ B) (hc:cellsAt w B o us) (hr:Reps w S φ cs us):Reps w S φ as vs→Reps w S φ (.pv cs :: as) (.pointer (some ⟨B,o,none⟩) :: vs)
  | nils {as vs} (a:Option Addr):Reps w S φ as vs→Reps w S φ (.nils :: as) (.slice a 0 0 :: vs)
  | own {as vs b v} (h:OwnOK φ b v):Reps w S φ as vs→Reps w S φ (.own b :: as) (v :: vs)
  | slc {as vs b off n sz v} (h:SlcOK φ b off n sz v):Reps w S φ as vs→Reps w S φ (.slc b off n sz :: as) (v :: vs)
  | view0 {as vs} (r:RTy) (xs:List r.carrier) (hx:xs = []) (a:Option Addr) (c:Nat):Reps w S φ as vs→Reps w S φ (.view r xs :: as) (.slice a 0 c :: vs)
  | view {as vs us B o} (r : RTy) (xs : List r.carrier) (c : Nat) (hc0 : xs.length ≤ c) (hs : Stab w S φ B) (hc : cellsAt w B o us) (hr : Reps w S φ (xs.flatMap r.enc) us) :
      Reps w S φ as vs→Reps w S φ (.view r xs :: as) (.slice (some ⟨B,o,none⟩) xs.length c :: vs)
  | lv0 {as vs cs} (a:Option Addr) (c:Nat):Reps w S φ as vs→Reps w S φ (.lv 0 cs :: as) (.slice a 0 c :: vs)
  | lv {as vs cs us B o} (n c : Nat) (hc0 : n ≤ c) (hs : Stab w S φ B) (hc : cellsAt w B o us) (hr : Reps w S φ cs us) :
      Reps w S φ as vs→Reps w S φ (.lv n cs :: as) (.slice (some ⟨B,o,none⟩) n c :: vs)
  | fn {as vs a1 a2 u1 u2} (f:Fn) (h1:Reps w S φ a1 u1) (h2:Reps w S φ a2 u2):Reps w S φ as vs→Reps w S φ (.fn f a1 a2 :: as) (.func f u1.toArray u2.toArray :: vs)
  | nilfn {as vs}:Reps w S φ as vs→Reps w S φ (.nilfn :: as) (.nilFunc :: vs)
  | iface {as vs a v} (t:TypeId) (h:Reps w S φ [a] [v]):Reps w S φ as vs→Reps w S φ (.iface t a :: as) (.iface t v :: vs)
  | niliface {as vs}:Reps w S φ as vs→Reps w S φ (.niliface :: as) (.nilIface :: vs)
  | map {as vs b v} (h:MapOK φ b v):Reps w S φ as vs→Reps w S φ (.map b :: as) (v :: vs)
  | nilmap {as vs}:Reps w S φ as vs→Reps w S φ (.nilmap :: as) (.map none :: vs)
  | agg {as vs cs us} (h:Reps w S φ cs us):Reps w S φ as vs→Reps w S φ (.agg cs :: as) (.agg us.toArray :: vs)
  | tup {as vs cs us} (h:Reps w S φ cs us):Reps w S φ as vs→Reps w S φ (.tup cs :: as) (.tuple us.toArray :: vs)
  | fv0 {as vs} (r:RTy) (xs:List r.carrier) (hx:xs = []) (a:Option Addr):Reps w S φ as vs→Reps w S φ (.fv r xs :: as) (.slice a 0 0 :: vs)
  | fv {as vs us B o} (r : RTy) (xs : List r.carrier) (hs : Stab w S φ B) (hc : cellsAt w B o us) (hr : Reps w S φ (xs.flatMap r.enc) us) :
      Reps w S φ as vs→Reps w S φ (.fv r xs :: as) (.slice (some ⟨B,o,none⟩) xs.length xs.length :: vs)
section
variable {w:World} {S:Nat→Prop} {φ:Env}
theorem Reps.len {as:List AV} {vs:List Value} (h:Reps w S φ as vs):as.length = vs.length:=by
  induction h <;> simp_all
theorem Reps.cons {a:AV} {v:Value} {as:List AV} {vs:List Value} (h:Reps w S φ [a] [v]) (h':Reps w S φ as vs):Reps w S φ (a :: as) (v :: vs):=by
  cases h with
  | any=>exact .any _ h'
  | lit=>exact .lit _ _ h'
  | int=>exact .int _ _ h'
  | blit=>exact .blit _ h'
  | bool=>exact .bool _ h'
  | str=>exact .str _ h'
  | nilp=>exact .nilp h'
  | ptr h=>exact .ptr h h'
  | rptr h=>exact .rptr h h'
  | pv a b c=>exact .pv a b c h'
  | nils=>exact .nils _ h'
  | own h=>exact .own h h'
  | slc h=>exact .slc h h'
  | view0 _ _ hx=>exact .view0 _ _ hx _ _ h'
  | view _ _ _ a b c d=>exact .view _ _ _ a b c d h'
  | lv0=>exact .lv0 _ _ h'
  | lv _ _ a b c d=>exact .lv _ _ a b c d h'
  | fn _ a b=>exact .fn _ a b h'
  | nilfn=>exact .nilfn h'
  | iface _ h=>exact .iface _ h h'
  | niliface=>exact .niliface h'
  | map h=>exact .map h h'
  | nilmap=>exact .nilmap h'
  | agg h=>exact .agg h h'
  | tup h=>exact .tup h h'
  | fv0 _ _ hx=>exact .fv0 _ _ hx _ h'
  | fv _ _ a b c=>exact .fv _ _ a b c h'
theorem Reps.uncons {a:AV} {as:List AV} {vs:List Value} (h:Reps w S φ (a :: as) vs):∃ v us,vs = v :: us∧Reps w S φ [a] [v]∧Reps w S φ as us:=by
  cases h with
  | any _ h'=>exact ⟨_,_,rfl,.any _ .nil,h'⟩
  | lit _ _ h'=>exact ⟨_,_,rfl,.lit _ _ .nil,h'⟩
  | int _ _ h'=>exact ⟨_,_,rfl,.int _ _ .nil,h'⟩
  | blit _ h'=>exact ⟨_,_,rfl,.blit _ .nil,h'⟩
  | bool _ h'=>exact ⟨_,_,rfl,.bool _ .nil,h'⟩
  | str _ h'=>exact ⟨_,_,rfl,.str _ .nil,h'⟩
  | nilp h'=>exact ⟨_,_,rfl,.nilp .nil,h'⟩
  | ptr h h'=>exact ⟨_,_,rfl,.ptr h .nil,h'⟩
  | rptr h h'=>exact ⟨_,_,rfl,.rptr h .nil,h'⟩
  | pv a b c h'=>exact ⟨_,_,rfl,.pv a b c .nil,h'⟩
  | nils _ h'=>exact ⟨_,_,rfl,.nils _ .nil,h'⟩
  | own h h'=>exact ⟨_,_,rfl,.own h .nil,h'⟩
  | slc h h'=>exact ⟨_,_,rfl,.slc h .nil,h'⟩
  | view0 _ _ hx _ _ h'=>exact ⟨_,_,rfl,.view0 _ _ hx _ _ .nil,h'⟩
  | view _ _ _ a b c d h'=>exact ⟨_,_,rfl,.view _ _ _ a b c d .nil,h'⟩
  | lv0 _ _ h'=>exact ⟨_,_,rfl,.lv0 _ _ .nil,h'⟩
  | lv _ _ a b c d h'=>exact ⟨_,_,rfl,.lv _ _ a b c d .nil,h'⟩
  | fn _ a b h'=>exact ⟨_,_,rfl,.fn _ a b .nil,h'⟩
  | nilfn h'=>exact ⟨_,_,rfl,.nilfn .nil,h'⟩
  | iface _ h h'=>exact ⟨_,_,rfl,.iface _ h .nil,h'⟩
  | niliface h'=>exact ⟨_,_,rfl,.niliface .nil,h'⟩
  | map h h'=>exact ⟨_,_,rfl,.map h .nil,h'⟩
  | nilmap h'=>exact ⟨_,_,rfl,.nilmap .nil,h'⟩
  | agg h h'=>exact ⟨_,_,rfl,.agg h .nil,h'⟩
  | tup h h'=>exact ⟨_,_,rfl,.tup h .nil,h'⟩
  | fv0 _ _ hx _ h'=>exact ⟨_,_,rfl,.fv0 _ _ hx _ .nil,h'⟩
  | fv _ _ a b c h'=>exact ⟨_,_,rfl,.fv _ _ a b c .nil,h'⟩
theorem Reps.nil_inv {vs:List Value} (h:Reps w S φ [] vs):vs = []:=by cases h; rfl
theorem Reps.one_inv {a:AV} {vs:List Value} (h:Reps w S φ [a] vs):∃ v,vs = [v]∧Reps w S φ [a] [v]:=by
  obtain ⟨v,us,rfl,h1,h2⟩:=h.uncons
  cases h2.nil_inv
  exact ⟨v,rfl,h1⟩
theorem Reps.app {as bs:List AV}:∀ {vs us:List Value},Reps w S φ as vs→Reps w S φ bs us→Reps w S φ (as ++ bs) (vs ++ us):=by
  induction as with
  | nil=>intro vs us h h'; cases h.nil_inv; exact h'
  | cons a as ih =>
    intro vs us h h'
    obtain ⟨v,ws,rfl,h1,h2⟩:=h.uncons
    exact h1.cons (ih h2 h')
theorem Reps.unapp {as bs:List AV}:∀ {vs:List Value},Reps w S φ (as ++ bs) vs→∃ us ws,vs = us ++ ws∧Reps w S φ as us∧Reps w S φ bs ws:=by
  induction as with
  | nil=>intro vs h; exact ⟨[],vs,rfl,.nil,h⟩
  | cons a as ih =>
    intro vs h
    obtain ⟨v,us,rfl,h1,h2⟩:=h.uncons
    obtain ⟨us',ws,rfl,h3,h4⟩:=ih h2
    exact ⟨v :: us',ws,rfl,h1.cons h3,h4⟩
theorem Reps.takeDrop (n:Nat) {as:List AV}:∀ {vs:List Value},Reps w S φ as vs→Reps w S φ (as.take n) (vs.take n)∧Reps w S φ (as.drop n) (vs.drop n):=by
  induction as generalizing n with
  | nil=>intro vs h; cases h.nil_inv; simp; exact .nil
  | cons a as ih =>
    intro vs h
    cases n with
    | zero=>simpa using ⟨.nil,h⟩
    | succ n =>
      obtain ⟨v,us,rfl,h1,h2⟩:=h.uncons
      obtain ⟨h3,h4⟩:=ih n h2
      simpa using ⟨h1.cons h3,h4⟩
theorem Reps.take (n:Nat) {as:List AV} {vs:List Value} (h:Reps w S φ as vs):Reps w S φ (as.take n) (vs.take n):=(h.takeDrop n).1
theorem Reps.drop (n:Nat) {as:List AV} {vs:List Value} (h:Reps w S φ as vs):Reps w S φ (as.drop n) (vs.drop n):=(h.takeDrop n).2
theorem Reps.get {as:List AV} {vs:List Value} (h:Reps w S φ as vs) {n:Nat} {a:AV} (ha:as[n]? = some a):∃ v,vs[n]? = some v∧Reps w S φ [a] [v]:=by
  induction as generalizing vs n with
  | nil=>simp at ha
  | cons b as ih =>
    obtain ⟨v,us,rfl,h1,h2⟩:=h.uncons
    cases n with
    | zero=>simp at ha; subst ha; exact ⟨v,rfl,h1⟩
    | succ n=>simpa using ih h2 (by simpa using ha)
theorem Reps.nth {as:List AV} {vs:List Value} (h:Reps w S φ as vs) (n:Nat):Reps w S φ [nth as n] [vs.getD n undef]:=by
  induction as generalizing vs n with
  | nil=>cases h.nil_inv; simp [Fx.nth]; exact .any _ .nil
  | cons b as ih =>
    obtain ⟨v,us,rfl,h1,h2⟩:=h.uncons
    cases n with
    | zero=>simpa [Fx.nth] using h1
    | succ n=>simpa [Fx.nth] using ih h2 n
theorem Reps.setNth {as:List AV} {vs:List Value} (h:Reps w S φ as vs) (n:Nat) {a:AV} {v:Value} (hv:Reps w S φ [a] [v]):Reps w S φ (setNth as n a) (vs.set n v):=by
  induction as generalizing vs n with
  | nil=>cases h.nil_inv; simp [Fx.setNth]; exact .nil
  | cons b as ih =>
    obtain ⟨u,us,rfl,h1,h2⟩:=h.uncons
    cases n with
    | zero=>simpa [Fx.setNth] using hv.cons h2
    | succ n=>simpa [Fx.setNth] using h1.cons (ih h2 n)
theorem Reps.anys:∀ (n:Nat) (v:Value),Reps w S φ (List.replicate n .any) (List.replicate n v)
  | 0,_=>.nil
  | n + 1,v=>.any v (Reps.anys n v)
end
structure Mono (w:World) (S:Nat→Prop) (φ:Env) (w':World) (S':Nat→Prop) (φ':Env):Prop where
  dom:∀ b s,φ b = some s→φ' b = some s∨φ' b = some s.kill
  stab:∀ B,Stab w S φ B→Stab w' S' φ' B∧w'.heap[B]? = w.heap[B]?
theorem Mono.refl (w:World) (S:Nat→Prop) (φ:Env):Mono w S φ w S φ:=⟨fun _ _ h=>.inl h,fun _ h=>⟨h,rfl⟩⟩
theorem Mono.trans {w w' w'':World} {S S' S'':Nat→Prop} {φ φ' φ'':Env} (h:Mono w S φ w' S' φ') (h':Mono w' S' φ' w'' S'' φ''):Mono w S φ w'' S'' φ'':=by
  refine ⟨fun b s hb=>?_,fun B hB=>?_⟩
  · rcases h.dom b s hb with h1 | h1
    · exact h'.dom b s h1
    · rcases h'.dom b _ h1 with h2 | h2
      · exact .inr h2
      · exact .inr h2
  · obtain ⟨h1,h2⟩:=h.stab B hB
    obtain ⟨h3,h4⟩:=h'.stab B h1
    exact ⟨h3,h4.trans h2⟩
theorem cellsAt.of_block {w w':World} {B o:Nat} {us:List Value} (h:cellsAt w B o us) (hb:w'.heap[B]? = w.heap[B]?):cellsAt w' B o us :=
  fun j u hj=>(World.cell?_of_block (w:=w) (w':=w') (a:=⟨B,o + j,none⟩) hb).trans (h j u hj)
theorem Reps.mono {w w':World} {S S':Nat→Prop} {φ φ':Env} (m:Mono w S φ w' S' φ') {as:List AV} {vs:List Value} (h:Reps w S φ as vs):Reps w' S' φ' as vs:=by
  induction h with
  | nil=>exact .nil
  | any _ _ ih=>exact .any _ ih
  | lit _ _ _ ih=>exact .lit _ _ ih
  | int _ _ _ ih=>exact .int _ _ ih
  | blit _ _ ih=>exact .blit _ ih
  | bool _ _ ih=>exact .bool _ ih
  | str _ _ ih=>exact .str _ ih
  | nilp _ ih=>exact .nilp ih
  | ptr h _ ih =>
    obtain ⟨s,B,h1,h2,h3⟩:=h
    refine .ptr ?_ ih
    rcases m.dom _ _ h1 with h4 | h4
    · exact ⟨s,B,h4,h2,h3⟩
    · exact ⟨s.kill,B,h4,h2,h3⟩
  | rptr h _ ih =>
    obtain ⟨s,B,h1,h2,h3⟩:=h
    refine .rptr ?_ ih
    rcases m.dom _ _ h1 with h4 | h4
    · exact ⟨s,B,h4,h2,h3⟩
    · exact ⟨s.kill,B,h4,h2,h3⟩
  | pv hs hc _ _ ih1 ih2=>exact .pv (m.stab _ hs).1 (hc.of_block (m.stab _ hs).2) ih1 ih2
  | nils _ _ ih=>exact .nils _ ih
  | own h _ ih =>
    obtain ⟨s,h1,h2⟩:=h
    refine .own ?_ ih
    rcases m.dom _ _ h1 with h4 | h4
    · exact ⟨s,h4,h2⟩
    · exact ⟨s.kill,h4,h2⟩
  | slc h _ ih =>
    obtain ⟨s,B,c,h1,h2⟩:=h
    refine .slc ?_ ih
    rcases m.dom _ _ h1 with h4 | h4
    · exact ⟨s,B,c,h4,h2⟩
    · exact ⟨s.kill,B,c,h4,h2⟩
  | view0 _ _ hx _ _ _ ih=>exact .view0 _ _ hx _ _ ih
  | view _ _ _ hc0 hs hc _ _ ih1 ih2=>exact .view _ _ _ hc0 (m.stab _ hs).1 (hc.of_block (m.stab _ hs).2) ih1 ih2
  | lv0 _ _ _ ih=>exact .lv0 _ _ ih
  | lv _ _ hc0 hs hc _ _ ih1 ih2=>exact .lv _ _ hc0 (m.stab _ hs).1 (hc.of_block (m.stab _ hs).2) ih1 ih2
  | fn _ _ _ _ ih1 ih2 ih3=>exact .fn _ ih1 ih2 ih3
  | nilfn _ ih=>exact .nilfn ih
  | iface _ _ _ ih1 ih2=>exact .iface _ ih1 ih2
  | niliface _ ih=>exact .niliface ih
  | map h _ ih =>
    obtain ⟨s,B,h1,h2,h3⟩:=h
    refine .map ?_ ih
    rcases m.dom _ _ h1 with h4 | h4
    · exact ⟨s,B,h4,h2,h3⟩
    · exact ⟨s.kill,B,h4,h2,h3⟩
  | nilmap _ ih=>exact .nilmap ih
  | agg _ _ ih1 ih2=>exact .agg ih1 ih2
  | tup _ _ ih1 ih2=>exact .tup ih1 ih2
  | fv0 _ _ hx _ _ ih=>exact .fv0 _ _ hx _ ih
  | fv _ _ hs hc _ _ ih1 ih2=>exact .fv _ _ (m.stab _ hs).1 (hc.of_block (m.stab _ hs).2) ih1 ih2
def ValRep (w:World) (S:Nat→Prop) (φ:Env) (r:RTy) (x:r.carrier) (v:Value):Prop :=
  match r.isAgg with
  | true=>∃ us,v = .agg us∧Reps w S φ (r.enc x) us.toList
  | false=>Reps w S φ (r.enc x) [v]∧v.oneCell' = true
def IMapRep (w:World) (S:Nat→Prop) (φ:Env) (r:RTy):List (Int × r.carrier)→List MapEntry→Prop
  | [],[]=>True
  | (k,x) :: es,m :: ms=>m.key = .int .i64 k∧ValRep w S φ r x m.val∧IMapRep w S φ r es ms
  | _,_=>False
def LMapRep (w:World) (S:Nat→Prop) (φ:Env):List (AV × AV)→List MapEntry→Prop
  | [],[]=>True
  | (k,x) :: es,m :: ms=>(∃ j,k = .lit .i64 j∧m.key = .int .i64 j)∧Reps w S φ [x] [m.val]∧LMapRep w S φ es ms
  | _,_=>False
def BlkRep (w:World) (S:Nat→Prop) (φ:Env) (B:Option Nat) (cap len:Nat):Blk→Prop
  | .cells cs=>∃ B' us e,B = some B'∧w.heap[B']? = some (.cells us e (0,0))∧us.size = len∧Reps w S φ cs us.toList
  | .rows r e xs=>len = xs.length∧∃ us,w.ownsRow 0 e r.size (.slice (baseOf B) len cap) len us∧Reps w S φ (xs.flatMap r.enc) us∧∀ u ∈ us,u.oneCell' = true
  | .imap r es=>∃ B' ms clock,B = some B'∧w.heap[B']? = some (.map ms clock)∧IMapRep w S φ r es ms.toList
  | .lmap es=>∃ B' ms clock,B = some B'∧w.heap[B']? = some (.map ms clock)∧LMapRep w S φ es ms.toList
theorem IMapRep.mono {w w':World} {S S':Nat→Prop} {φ φ':Env} (m:Mono w S φ w' S' φ') {r:RTy}:∀ {es:List (Int × r.carrier)} {ms:List MapEntry},IMapRep w S φ r es ms→IMapRep w' S' φ' r es ms
  | [],[],_=>trivial
  | (k,x) :: es,m' :: ms,⟨h1,h2,h3⟩=>by
    refine ⟨h1,?_,IMapRep.mono m h3⟩
    unfold ValRep at h2 ⊢
    split at h2
    · obtain ⟨us,hu,hr⟩:=h2; exact ⟨us,hu,hr.mono m⟩
    · exact ⟨h2.1.mono m,h2.2⟩
theorem LMapRep.mono {w w':World} {S S':Nat→Prop} {φ φ':Env} (m:Mono w S φ w' S' φ'):∀ {es:List (AV × AV)} {ms:List MapEntry},LMapRep w S φ es ms→LMapRep w' S' φ' es ms
  | [],[],_=>trivial
  | (_,_) :: _,_ :: _,⟨h1,h2,h3⟩=>⟨h1,h2.mono m,LMapRep.mono m h3⟩
theorem BlkRep.mono {w w' : World} {S S' : Nat → Prop} {φ φ' : Env} (m : Mono w S φ w' S' φ') {B : Option Nat} {cap len : Nat} {blk : Blk} (h : BlkRep w S φ B cap len blk)
    (hB:∀ b,B = some b→w'.heap[b]? = w.heap[b]?):BlkRep w' S' φ' B cap len blk:=by
  cases blk with
  | cells cs =>
    obtain ⟨B',us,e,rfl,h1,h2,h3⟩:=h
    exact ⟨B',us,e,rfl,(hB B' rfl).trans h1,h2,h3.mono m⟩
  | rows r e xs =>
    obtain ⟨h1,us,⟨h2,h3⟩,h4,h5⟩:=h
    refine ⟨h1,us,⟨h2,?_⟩,h4.mono m,h5⟩
    rcases h3 with h3 | ⟨g,c,cur,hv,hg,hh,r⟩
    · exact .inl h3
    · refine .inr ⟨g,c,cur,hv,hg,?_,r⟩
      cases B with
      | none=>simp [baseOf] at hv
      | some b =>
        have:b = g:=by simp [baseOf] at hv; exact hv.1
        subst this
        exact (hB b rfl).trans hh
  | imap r es =>
    obtain ⟨B',ms,clock,rfl,h1,h2⟩:=h
    exact ⟨B',ms,clock,rfl,(hB B' rfl).trans h1,h2.mono m⟩
  | lmap es =>
    obtain ⟨B',ms,clock,rfl,h1,h2⟩:=h
    exact ⟨B',ms,clock,rfl,(hB B' rfl).trans h1,h2.mono m⟩
def HeapRep (w:World) (S:Nat→Prop) (φ:Env) (look:Nat→Option Blk):Prop :=
  ∀ b blk,look b = some blk→∃ B cap len,φ b = some ⟨true,B,cap,len⟩∧BlkRep w S φ B cap len blk
def InjE (φ:Env):Prop:=∀ b b' B c n c' n',φ b = some ⟨true,some B,c,n⟩→φ b' = some ⟨true,some B,c',n'⟩→b = b'
end Go.Fx
namespace Go.Fx
open Go Go.RowKit
section
variable {P:Program} {w:World} {S:Nat→Prop} {φ:Env}
def Gives (P:Program) (w:World) (S:Nat→Prop) (φ:Env) (t:Tree AV) (s:Sem Value):Prop :=
  ∀ Q,t.wp Q→∃ z v,s.run P w = .ok z w∧Q v∧Reps w S φ [v] [z]
theorem Gives.fail (s:Sem Value):Gives P w S φ .fail s:=fun _ h=>h.elim
theorem Gives.ret {v:AV} {s:Sem Value} {z:Value} (hs:s.run P w = .ok z w) (h:Reps w S φ [v] [z]):Gives P w S φ (.ret v) s :=
  fun _ hq=>⟨z,v,hs,hq,h⟩
theorem Gives.asrt {p:Prop} {t:Tree AV} {s:Sem Value} (h:p→Gives P w S φ t s):Gives P w S φ (.asrt p t) s :=
  fun Q hq=>h hq.1 Q hq.2
theorem Gives.need {l:Bool} {p:Prop} [Decidable p] {t:Tree AV} {s:Sem Value} (h:p→Gives P w S φ t s):Gives P w S φ (need l p t) s :=
  fun Q hq=>h (need_wp hq).1 Q (need_wp hq).2
theorem Gives.ofOption {o:Option AV} {s:Sem Value} (h:∀ v,o = some v→Gives P w S φ (.ret v) s):Gives P w S φ (Tree.ofOption o) s:=by
  cases o with
  | none=>exact Gives.fail s
  | some v=>exact h v rfl
theorem Gives.congr {t:Tree AV} {s s':Sem Value} (h:Gives P w S φ t s) (hs:s'.run P w = s.run P w):Gives P w S φ t s' :=
  fun Q hq=>let ⟨z,v,h1,h2,h3⟩:=h Q hq; ⟨z,v,hs.trans h1,h2,h3⟩
theorem num_inv {a:AV} {l:Bool} {k:IntKind} {n:Int} (h:a.num = some (l,k,n)) {x:Value} (hr:Reps w S φ [a] [x]):x = .int k n:=by
  cases a <;> simp only [AV.num,reduceCtorEq,Option.some.injEq,Prod.mk.injEq] at h
  · obtain ⟨_,rfl,rfl⟩:=h; cases hr; rfl
  · obtain ⟨_,rfl,rfl⟩:=h; cases hr; rfl
theorem truth_inv {a:AV} {l b:Bool} (h:a.truth = some (l,b)) {x:Value} (hr:Reps w S φ [a] [x]):x = .bool b:=by
  cases a <;> simp only [AV.truth,reduceCtorEq,Option.some.injEq,Prod.mk.injEq] at h
  · obtain ⟨_,rfl⟩:=h; cases hr; rfl
  · obtain ⟨_,rfl⟩:=h; cases hr; rfl
theorem mkInt_rep (l:Bool) (k:IntKind) (n:Int):Reps w S φ [mkInt l k n] [.int k n]:=by
  cases l
  · exact .int _ _ .nil
  · exact .lit _ _ .nil
theorem mkBool_rep (l b:Bool):Reps w S φ [mkBool l b] [.bool b]:=by
  cases l
  · exact .bool _ .nil
  · exact .blit _ .nil
theorem str_inv {l:List UInt8} {x:Value} (hr:Reps w S φ [.str l] [x]):∃ s:ByteArray,x = .string s∧s.data.toList = l:=by
  cases hr with
  | str s=>exact ⟨s,rfl,rfl⟩
theorem arithV_gives {f : IntKind → Int → Int → Int} {a b : AV} {x y : Value} {s : Value → Value → Sem Value}
    (hf:∀ k m n,(s (.int k m) (.int k n)).run P w = .ok (.int k (f k m n)) w) (ha:Reps w S φ [a] [x]) (hb:Reps w S φ [b] [y]):Gives P w S φ (arithV f a b) (s x y):=by
  unfold arithV
  split
  · rename_i l k m l' k' n h1 h2
    cases num_inv h1 ha
    cases num_inv h2 hb
    split
    · rename_i hk
      subst hk
      exact .ret (hf _ _ _) (mkInt_rep _ _ _)
    · exact .fail _
  · exact .fail _
theorem cmpV_gives {f : Int → Int → Bool} {a b : AV} {x y : Value} {s : Value → Value → Sem Value}
    (hf:∀ k m n,(s (.int k m) (.int k n)).run P w = .ok (.bool (f m n)) w) (ha:Reps w S φ [a] [x]) (hb:Reps w S φ [b] [y]):Gives P w S φ (cmpV f a b) (s x y):=by
  unfold cmpV
  split
  · rename_i l k m l' k' n h1 h2
    cases num_inv h1 ha
    cases num_inv h2 hb
    split
    · rename_i hk
      subst hk
      exact .ret (hf _ _ _) (mkBool_rep _ _)
    · exact .fail _
  · exact .fail _
theorem shiftV_gives {f : IntKind → Int → Int → Int} {a b : AV} {x y : Value} {s : Value → Value → Sem Value}
    (hf:∀ k m k' n,0≤n→(s (.int k m) (.int k' n)).run P w = .ok (.int k (f k m n)) w) (ha:Reps w S φ [a] [x]) (hb:Reps w S φ [b] [y]):Gives P w S φ (shiftV f a b) (s x y):=by
  unfold shiftV
  split
  · rename_i l k m l' k' n h1 h2
    cases num_inv h1 ha
    cases num_inv h2 hb
    exact .need fun hn=>.ret (hf _ _ _ _ hn) (mkInt_rep _ _ _)
  · exact .fail _
theorem divV_gives {f : IntKind → Int → Int → Int} {a b : AV} {x y : Value} {s : Value → Value → Sem Value}
    (hf:∀ k m n,n≠0→(s (.int k m) (.int k n)).run P w = .ok (.int k (f k m n)) w) (ha:Reps w S φ [a] [x]) (hb:Reps w S φ [b] [y]):Gives P w S φ (divV f a b) (s x y):=by
  unfold divV
  split
  · rename_i l k m l' k' n h1 h2
    cases num_inv h1 ha
    cases num_inv h2 hb
    split
    · rename_i hk
      subst hk
      exact .need fun hn=>.ret (hf _ _ _ hn) (mkInt_rep _ _ _)
    · exact .fail _
  · exact .fail _
theorem szOf_run {t:TypeId} {n:Nat} (h:szOf P t = some n):(sizeOf t).run P w = .ok n w:=by
  unfold szOf at h
  split at h
  · rename_i i d hi hd
    cases h
    simp [sizeOf,typeInfo,hi]
  · cases h
theorem szOf_und {t:TypeId} {n:Nat} (h:szOf P t = some n):∃ d,P.underlying t = some d:=by
  unfold szOf at h
  split at h
  · rename_i i d hi hd; exact ⟨d,hd⟩
  · cases h
theorem szOf_info {t:TypeId} {n:Nat} (h:szOf P t = some n):∃ i,P.info? t = some i∧i.size = n:=by
  unfold szOf at h
  split at h
  · rename_i i d hi hd; exact ⟨i,hi,by simpa using h⟩
  · cases h
theorem info_run {t:TypeId} {i:TypeInfo} (h:P.info? t = some i):(typeInfo t).run P w = .ok i w:=by simp [typeInfo,h]
theorem und_run {t:TypeId} {d:TypeDesc} (h:P.underlying t = some d):(underlying t).run P w = .ok d w:=by simp [underlying,h]
theorem isAgg_run {t:TypeId} {d:TypeDesc} (h:P.underlying t = some d):(isAgg t).run P w = .ok (isAggT P t) w:=by
  simp only [isAgg,Sem.run_bind,und_run h,Result.andThen_ok,isAggT,h]
  cases d <;> rfl
theorem partAV_inv {t : TypeId} {cs : List AV} {off : Nat} {v : AV} (h : partAV P t cs off = some v) {us : List Value} (hr : Reps w S φ cs us) :
    ∃ n,szOf P t = some n∧off + n≤cs.length ∧
      ((isAggT P t = true∧v = .agg ((cs.drop off).take n)∧Reps w S φ [v] [.agg ((us.drop off).take n).toArray]) ∨
       (isAggT P t = false∧n = 1∧∃ c z,cs[off]? = some c∧v = c∧us[off]? = some z∧Reps w S φ [v] [z])):=by
  unfold partAV at h
  split at h
  · cases h
  · rename_i n hn
    split at h
    · rename_i hle
      refine ⟨n,hn,hle,?_⟩
      split at h
      · rename_i hagg
        cases h
        exact .inl ⟨hagg,rfl,.agg ((hr.drop off).take n) .nil⟩
      · rename_i hagg
        right
        split at h
        · rename_i c rest hd
          split at h
          · rename_i h1
            cases h
            have hg:cs[off]? = some v:=by
              have:=congrArg (fun l=>l[0]?) hd
              simpa using this
            obtain ⟨z,hz,hz'⟩:=hr.get hg
            exact ⟨by simpa using hagg,h1,v,z,hg,rfl,hz,hz'⟩
          · cases h
        · cases h
    · cases h
theorem part_gives {t : TypeId} {cs : List AV} {off : Nat} {v : AV} {d : TypeDesc} (hd : P.underlying t = some d) (h : partAV P t cs off = some v) {us : Array Value} (hr : Reps w S φ cs us.toList) :
    ∃ z,(part t us off).run P w = .ok z w∧Reps w S φ [v] [z]:=by
  obtain ⟨n,hn,hle,h⟩:=partAV_inv h hr
  have hl:=hr.len
  rcases h with ⟨hagg,rfl,hv⟩ | ⟨hagg,rfl,c,z,hc,rfl,hz,hv⟩
  · refine ⟨_,?_,hv⟩
    simp only [part,Sem.run_bind,isAgg_run hd,hagg,Result.andThen_ok,if_true,szOf_run hn,Sem.run_pure]
    congr 2
    apply Array.ext'
    simp [List.take_drop]
  · refine ⟨z,?_,hv⟩
    simp only [part,Sem.run_bind,isAgg_run hd,hagg,Result.andThen_ok,if_false,Bool.false_eq_true]
    rw [← Array.getElem?_toList,hz]
    rfl
theorem andAV_inv {a b r:AV} (h:andAV a b = some r) {x y:Bool} (ha:Reps w S φ [a] [.bool x]) (hb:x = true→Reps w S φ [b] [.bool y]):Reps w S φ [r] [.bool (x && y)]:=by
  unfold andAV at h
  split at h <;> try cases h
  · cases ha; simpa using hb rfl
  · cases ha; exact .blit _ .nil
  · cases ha; exact .blit _ .nil
  · cases ha with
    | bool=>cases x with
      | false=>exact .bool _ .nil
      | true=>cases hb rfl; exact .bool _ .nil
  · cases ha with
    | bool=>cases x with
      | false=>exact .blit _ .nil
      | true=>cases hb rfl; exact .blit _ .nil
  · cases ha with
    | bool=>cases x with
      | false=>exact .bool _ .nil
      | true=>cases hb rfl; exact .bool _ .nil
theorem notAV_inv {a r:AV} (h:notAV a = some r) {x:Bool} (ha:Reps w S φ [a] [.bool x]):Reps w S φ [r] [.bool (!x)]:=by
  unfold notAV at h
  split at h <;> try cases h
  · cases ha; exact .blit _ .nil
  · cases ha; exact .bool _ .nil
theorem eqFields_run {d : Nat} {f : TypeId → AV → AV → Option AV} (hf : ∀ t a b r x y, f t a b = some r → Reps w S φ [a] [x] → Reps w S φ [b] [y] → ∃ z, (Op.equalIn d t x y).run P w = .ok z w ∧ Reps w S φ [r] [.bool z])
    (hu:∀ t a b r,f t a b = some r→∃ dd,P.underlying t = some dd)
    {xs ys:List AV} {us vs:Array Value} (hx:Reps w S φ xs us.toList) (hy:Reps w S φ ys vs.toList) :
    ∀ {fs : List Field} {r : AV}, (∀ g ∈ fs, g.name ≠ "_") → eqFields P f xs ys fs = some r → ∃ z, (Op.eqFields d us vs fs).run P w = .ok z w ∧ Reps w S φ [r] [.bool z]
  | [],r,_,h=>by
    simp only [eqFields,Option.some.injEq] at h
    subst h
    exact ⟨true,by simp [Op.eqFields],.blit _ .nil⟩
  | g :: fs,r,hn,h=>by
    unfold eqFields at h
    split at h
    · rename_i a b ha hb
      split at h
      · rename_i r1 r2 h1 h2
        obtain ⟨dd,hdd⟩:=hu _ _ _ _ h1
        obtain ⟨x,hpx,hrx⟩:=part_gives (S:=S) hdd ha hx
        obtain ⟨y,hpy,hry⟩:=part_gives (S:=S) hdd hb hy
        obtain ⟨z1,hz1,hr1⟩:=hf _ _ _ _ _ _ h1 hrx hry
        obtain ⟨z2,hz2,hr2⟩:=eqFields_run hf hu hx hy (fun g' hg'=>hn g' (by simp [hg'])) h2
        refine ⟨z1 && z2,?_,andAV_inv h hr1 (fun _=>hr2)⟩
        rw [Op.eqFields]
        simp only [if_pos (hn g (by simp)),Sem.run_bind,hpx,hpy,hz1,Result.andThen_ok]
        cases z1
        · simp
        · simpa using hz2
      · cases h
    · cases h
theorem eqElems_run {d : Nat} {f : AV → AV → Option AV} {e : TypeId} {sz : Nat} {dd : TypeDesc} (he : P.underlying e = some dd)
    (hf:∀ a b r x y,f a b = some r→Reps w S φ [a] [x]→Reps w S φ [b] [y]→∃ z,(Op.equalIn d e x y).run P w = .ok z w∧Reps w S φ [r] [.bool z])
    {xs ys:List AV} {us vs:Array Value} (hx:Reps w S φ xs us.toList) (hy:Reps w S φ ys vs.toList) :
    ∀ {n i:Nat} {r:AV},eqElems P f e sz xs ys i n = some r→∃ z,(Op.eqItems d e sz us vs (List.range' i n)).run P w = .ok z w∧Reps w S φ [r] [.bool z]
  | 0,i,r,h=>by
    simp only [eqElems,Option.some.injEq] at h
    subst h
    exact ⟨true,by simp [Op.eqItems],.blit _ .nil⟩
  | n + 1,i,r,h=>by
    unfold eqElems at h
    split at h
    · rename_i a b ha hb
      split at h
      · rename_i r1 r2 h1 h2
        obtain ⟨x,hpx,hrx⟩:=part_gives (S:=S) he ha hx
        obtain ⟨y,hpy,hry⟩:=part_gives (S:=S) he hb hy
        obtain ⟨z1,hz1,hr1⟩:=hf _ _ _ _ _ h1 hrx hry
        obtain ⟨z2,hz2,hr2⟩:=eqElems_run he hf hx hy h2
        refine ⟨z1 && z2,?_,andAV_inv h hr1 (fun _=>hr2)⟩
        simp only [List.range'_succ,Op.eqItems,Sem.run_bind,hpx,hpy,hz1,Result.andThen_ok]
        cases z1
        · simp
        · simpa using hz2
      · cases h
    · cases h
theorem eqV_und {d:Nat} {t:TypeId} {a b r:AV} (h:eqV P d t a b = some r):∃ dd,P.underlying t = some dd:=by
  cases d with
  | zero=>cases h
  | succ d =>
    unfold eqV at h
    cases hu:P.underlying t with
    | none=>simp [hu] at h
    | some dd=>exact ⟨dd,rfl⟩
theorem eqV_run : ∀ {d : Nat} {t : TypeId} {a b r : AV} {x y : Value}, eqV P d t a b = some r → Reps w S φ [a] [x] → Reps w S φ [b] [y] → ∀ m, d ≤ m →
    ∃ z,(Op.equalIn m t x y).run P w = .ok z w∧Reps w S φ [r] [.bool z]
  | 0,_,_,_,_,_,_,h,_,_,_,_=>by cases h
  | d + 1,t,a,b,r,x,y,h,ha,hb,m,hm=>by
    obtain ⟨m,rfl⟩:∃ k,m = k + 1:=⟨m - 1,by omega⟩
    unfold eqV at h
    split at h
    · rename_i k hu
      split at h
      · rename_i l k1 n1 l' k2 n2 h1 h2
        split at h
        · rename_i hk
          obtain ⟨rfl,rfl⟩:=hk
          cases h
          cases num_inv h1 ha
          cases num_inv h2 hb
          exact ⟨_,run_equalIn_int w m t _ _ _ _ hu,mkBool_rep _ _⟩
        · cases h
      · cases h
    · rename_i hu
      split at h
      · rename_i l1 b1 l2 b2 h1 h2
        cases h
        cases truth_inv h1 ha
        cases truth_inv h2 hb
        exact ⟨_,run_equalIn_bool' w m t _ _ hu,mkBool_rep _ _⟩
      · cases h
    · rename_i hu
      split at h
      · cases h
        obtain ⟨s1,rfl,rfl⟩:=str_inv ha
        obtain ⟨s2,rfl,rfl⟩:=str_inv hb
        refine ⟨s1 == s2,by simp [Op.equalIn,und_run hu],?_⟩
        have:(s1.data.toList == s2.data.toList) = (s1 == s2):=by rw [beq_toListBytes,ByteArray.toList_eq,ByteArray.toList_eq]
        rw [this]
        exact .bool _ .nil
      · cases h
    · rename_i e hu
      split at h <;> first | (cases h; done) | skip
      · cases h; cases ha; cases hb
        exact ⟨true,by simp [Op.equalIn,und_run hu],.blit _ .nil⟩
      · cases h; cases ha; cases hb
        exact ⟨false,by simp [Op.equalIn,und_run hu],.blit _ .nil⟩
      · cases h; cases ha; cases hb
        exact ⟨false,by simp [Op.equalIn,und_run hu],.blit _ .nil⟩
    · rename_i e hu
      split at h <;> first | (cases h; done) | skip
      · cases h; cases ha; cases hb
        exact ⟨true,by simp [Op.equalIn,und_run hu],.blit _ .nil⟩
      · cases h; cases ha; cases hb
        exact ⟨false,by simp [Op.equalIn,und_run hu],.blit _ .nil⟩
      · cases h; cases ha; cases hb
        exact ⟨false,by simp [Op.equalIn,und_run hu],.blit _ .nil⟩
    · rename_i fs hu
      split at h
      · split at h
        · cases h
        · rename_i hc
          simp only [Bool.or_eq_true,not_or,Bool.not_eq_true] at hc
          cases ha with
          | agg ha =>
            cases hb with
            | agg hb =>
              have hfo:P.fieldsOf t = fs:=by simp [Program.fieldsOf,hu]
              rw [run_equalIn_struct (P:=P) w m t _ _ (by rw [hfo]; exact hu) hc.1,hfo]
              refine eqFields_run (f:=eqV P d) (d:=m) (fun t a b r x y h1 h2 h3=>eqV_run h1 h2 h3 m (by omega)) (fun t a b r h1=>eqV_und h1) (by simpa using ha) (by simpa using hb) ?_ h
              intro g hg hname
              have:=hc.2
              rw [Array.any_eq_false'] at this
              exact this g (by simpa using hg) (by simp [hname])
      · cases h
    · rename_i n e hu
      split at h
      · rename_i xs ys sz hsz
        cases ha with
        | agg ha =>
          cases hb with
          | agg hb =>
            obtain ⟨i,hi,hsz'⟩:=szOf_info hsz
            have hco:P.cellsOf e = sz:=by simp [Program.cellsOf,hi,hsz']
            rw [run_equalIn_array (P:=P) w m _ _ hu hi,hco,List.range_eq_range']
            cases n with
            | zero =>
              simp only [eqElems,Option.some.injEq] at h
              subst h
              exact ⟨true,by simp [Op.eqItems],.blit _ .nil⟩
            | succ n =>
              obtain ⟨dd,hdd⟩:∃ dd,P.underlying e = some dd:=by
                unfold eqElems at h
                split at h
                · split at h
                  · rename_i h1 h2; exact eqV_und h1
                  · cases h
                · cases h
              exact eqElems_run hdd (fun a b r x y h1 h2 h3=>eqV_run h1 h2 h3 m (by omega)) (by simpa using ha) (by simpa using hb) h
      · cases h
    · cases h
end
end Go.Fx
