/- An executor of loaded Go code over abstract values: operations. -/
import Derived.Test.YtccfojgceohciaaFxA
namespace Go.Fx
open Go

/-! ### numbers -/
def AV.num : AV → Option (Bool × IntKind × Int)
  | .lit k n => some (true, k, n)
  | .int k n => some (false, k, n)
  | _ => none
def AV.truth : AV → Option (Bool × Bool)
  | .blit b => some (true, b)
  | .bool b => some (false, b)
  | _ => none
def mkInt (l : Bool) (k : IntKind) (n : Int) : AV := match l with | true => .lit k n | false => .int k n
def mkBool (l : Bool) (b : Bool) : AV := match l with | true => .blit b | false => .bool b

def arithV (f : IntKind → Int → Int → Int) (a b : AV) : Tree AV :=
  match a.num, b.num with
  | some (l, k, x), some (l', k', y) => if k = k' then .ret (mkInt (l && l') k (f k x y)) else .fail
  | _, _ => .fail
def cmpV (f : Int → Int → Bool) (a b : AV) : Tree AV :=
  match a.num, b.num with
  | some (l, k, x), some (l', k', y) => if k = k' then .ret (mkBool (l && l') (f x y)) else .fail
  | _, _ => .fail
/-- A condition that is held at once where it is one of literals. -/
def need {α : Type} (l : Bool) (p : Prop) [Decidable p] (t : Tree α) : Tree α :=
  match l with
  | true => if p then t else .fail
  | false => .asrt p t
def shlI (k : IntKind) (x y : Int) : Int := k.wrap (x * 2 ^ (min y.toNat k.bits))
def shrI (k : IntKind) (x y : Int) : Int := x.fdiv (2 ^ (min y.toNat k.bits))
def shiftV (f : IntKind → Int → Int → Int) (a b : AV) : Tree AV :=
  match a.num, b.num with
  | some (l, k, x), some (l', _, y) => need l' (0 ≤ y) (.ret (mkInt (l && l') k (f k x y)))
  | _, _ => .fail
def divV (f : IntKind → Int → Int → Int) (a b : AV) : Tree AV :=
  match a.num, b.num with
  | some (l, k, x), some (l', k', y) => if k = k' then need l' (y ≠ 0) (.ret (mkInt (l && l') k (f k x y))) else .fail
  | _, _ => .fail
def andI (k : IntKind) (x y : Int) : Int := k.wrap ((BitVec.ofInt k.bits x &&& BitVec.ofInt k.bits y).toNat : Int)
def orI (k : IntKind) (x y : Int) : Int := k.wrap ((BitVec.ofInt k.bits x ||| BitVec.ofInt k.bits y).toNat : Int)
def xorI (k : IntKind) (x y : Int) : Int := k.wrap ((BitVec.ofInt k.bits x ^^^ BitVec.ofInt k.bits y).toNat : Int)
def andNotI (k : IntKind) (x y : Int) : Int := k.wrap ((BitVec.ofInt k.bits x &&& ~~~(BitVec.ofInt k.bits y)).toNat : Int)

/-! ### comparisons -/
def andAV : AV → AV → Option AV
  | .blit true, b => some b
  | .blit false, .blit _ => some (.blit false)
  | .blit false, .bool _ => some (.blit false)
  | .bool x, .blit true => some (.bool x)
  | .bool _, .blit false => some (.blit false)
  | .bool x, .bool y => some (.bool (x && y))
  | _, _ => none
def notAV : AV → Option AV
  | .blit b => some (.blit (!b))
  | .bool b => some (.bool (!b))
  | _ => none
def eqFields (P : Program) (f : TypeId → AV → AV → Option AV) (xs ys : List AV) : List Field → Option AV
  | [] => some (.blit true)
  | fd :: fs =>
    match partAV P fd.type xs fd.offset, partAV P fd.type ys fd.offset with
    | some a, some b =>
      match f fd.type a b, eqFields P f xs ys fs with
      | some r, some s => andAV r s
      | _, _ => none
    | _, _ => none
def eqElems (P : Program) (f : AV → AV → Option AV) (t : TypeId) (sz : Nat) (xs ys : List AV) : Nat → Nat → Option AV
  | _, 0 => some (.blit true)
  | i, n + 1 =>
    match partAV P t xs (i * sz), partAV P t ys (i * sz) with
    | some a, some b =>
      match f a b, eqElems P f t sz xs ys (i + 1) n with
      | some r, some s => andAV r s
      | _, _ => none
    | _, _ => none
def eqV (P : Program) : Nat → TypeId → AV → AV → Option AV
  | 0, _, _, _ => none
  | d + 1, t, a, b =>
    match P.underlying t with
    | some (.int k) =>
      match a.num, b.num with
      | some (l, k1, x), some (l', k2, y) => if k1 = k ∧ k2 = k then some (mkBool (l && l') (x == y)) else none
      | _, _ => none
    | some .bool =>
      match a.truth, b.truth with
      | some (l, x), some (l', y) => some (mkBool (l && l') (x == y))
      | _, _ => none
    | some .string =>
      match a, b with
      | .str x, .str y => some (.bool (x == y))
      | _, _ => none
    | some (.pointer _) =>
      match a, b with
      | .nilp, .nilp => some (.blit true)
      | .nilp, .pv _ => some (.blit false)
      | .pv _, .nilp => some (.blit false)
      | _, _ => none
    | some (.func _ _ _) =>
      match a, b with
      | .nilfn, .nilfn => some (.blit true)
      | .nilfn, .fn _ _ _ => some (.blit false)
      | .fn _ _ _, .nilfn => some (.blit false)
      | _, _ => none
    | some (.struct fs) =>
      match a, b with
      | .agg xs, .agg ys => if P.stoodInHeld t || fs.any (fun f => f.name == "_") then none else eqFields P (eqV P d) xs ys fs.toList
      | _, _ => none
    | some (.array n e) =>
      match a, b, szOf P e with
      | .agg xs, .agg ys, some sz => eqElems P (eqV P d e) e sz xs ys 0 n
      | _, _, _ => none
    | _ => none
/-- '==' at a type, where no two nil interface values can meet. -/
def eqTop (P : Program) (t : TypeId) (a b : AV) : Option AV :=
  match a, b with
  | .agg _, .agg _ => if P.eqGuardType P.depth t then none else eqV P 20 t a b
  | .agg _, _ => none
  | _, .agg _ => none
  | .str _, _ => none
  | _, .str _ => none
  | .niliface, _ => none
  | _, .niliface => none
  | .iface _ _, _ => none
  | _, .iface _ _ => none
  | a, b =>
    match a.num, b.num with
    | none, none => eqV P 20 t a b
    | _, _ => none

def binOpV (P : Program) (op : BinOp) (t : TypeId) (a b : AV) : Tree AV :=
  match op with
  | .add =>
    match a, b with
    | .str x, .str y => .asrt (x.length + y.length ≤ 9223372036854775807) (.ret (.str (x ++ y)))
    | a, b => arithV (fun k x y => k.wrap (x + y)) a b
  | .sub => arithV (fun k x y => k.wrap (x - y)) a b
  | .mul => arithV (fun k x y => k.wrap (x * y)) a b
  | .quo => divV (fun k x y => k.wrap (x.tdiv y)) a b
  | .rem => divV (fun _ x y => x.tmod y) a b
  | .and => arithV andI a b
  | .or => arithV orI a b
  | .xor => arithV xorI a b
  | .andNot => arithV andNotI a b
  | .shl => shiftV shlI a b
  | .shr => shiftV shrI a b
  | .lss => cmpV (fun x y => decide (x < y)) a b
  | .leq => cmpV (fun x y => decide (x ≤ y)) a b
  | .gtr => cmpV (fun x y => decide (x > y)) a b
  | .geq => cmpV (fun x y => decide (x ≥ y)) a b
  | .eql =>
    match a, b with
    | .str x, .str y => .ret (.bool (x == y))
    | a, b =>
      match a.num, b.num with
      | some _, some _ => cmpV (fun x y => x == y) a b
      | _, _ => Tree.ofOption (eqTop P t a b)
  | .neq =>
    match a, b with
    | .str x, .str y => .ret (.bool (!(x == y)))
    | a, b =>
      match a.num, b.num with
      | some _, some _ => cmpV (fun x y => x != y) a b
      | _, _ => Tree.ofOption (match eqTop P t a b with | some r => notAV r | none => none)

def unOpV (op : UnOp) (a : AV) : Tree AV :=
  match op with
  | .neg => match a.num with | some (l, k, x) => .ret (mkInt l k (k.wrap (0 - x))) | none => .fail
  | .not => Tree.ofOption (notAV a)
  | _ => .fail

/-! ### joining two ways -/
def joinAV (c : Bool) : AV → AV → Option AV
  | .blit x, .blit y => match x, y with
    | true, true => some (.blit true)
    | false, false => some (.blit false)
    | true, false => some (.bool c)
    | false, true => some (.bool (!c))
  | .lit k x, .lit k' y => if k = k' then (if x = y then some (.lit k x) else some (.int k (bif c then x else y))) else none
  | .lit k x, .int k' y => if k = k' then some (.int k (bif c then x else y)) else none
  | .int k x, .lit k' y => if k = k' then some (.int k (bif c then x else y)) else none
  | .int k x, .int k' y => if k = k' then some (.int k (bif c then x else y)) else none
  | .bool x, .bool y => some (.bool (bif c then x else y))
  | .bool x, .blit true => some (.bool (!c || x))
  | .bool x, .blit false => some (.bool (c && x))
  | .blit true, .bool y => some (.bool (c || y))
  | .blit false, .bool y => some (.bool (!c && y))
  | .str x, .str y => some (.str (bif c then x else y))
  | _, _ => none
def joinAny (c : Bool) (a b : AV) : AV := (joinAV c a b).getD .any

def pickV (c a b : AV) : Tree AV :=
  match c with
  | .blit true => .ret a
  | .blit false => .ret b
  | .bool x => .ite x (.ret a) (.ret b)
  | _ => .fail

/-! ### addresses, parts -/
def fieldAddrV (P : Program) (s : TypeId) (x : AV) (f : Nat) : Tree AV :=
  match fieldOf P s f with
  | some (o, _ + 1, _) =>
    match x with
    | .ptr b off => .ret (.ptr b (off + o))
    | .rptr b r i off => .ret (.rptr b r i (off + o))
    | .pv cs => if o ≤ cs.length then .ret (.pv (cs.drop o)) else .fail
    | _ => .fail
  | _ => .fail
def fieldV (P : Program) (s : TypeId) (x : AV) (f : Nat) : Tree AV :=
  match fieldOf P s f, x with
  | some (o, _, t), .agg cs => Tree.ofOption (partAV P t cs o)
  | _, _ => .fail
def loadV (P : Program) (look : Nat → Option Blk) (t : TypeId) (x : AV) : Tree AV :=
  match x with
  | .ptr b off => match look b with | some (.cells cs) => Tree.ofOption (partAV P t cs off) | _ => .fail
  | .pv cs => Tree.ofOption (partAV P t cs 0)
  | .rptr b r i off =>
    match look b with
    | some (.rows r' _ xs) => if r' = r then .asrt (0 ≤ i ∧ i < xs.length) (Tree.ofOption (partAV P t (r'.enc (rd r' xs i)) off)) else .fail
    | _ => .fail
  | _ => .fail
def indexAddrV (P : Program) (look : Nat → Option Blk) (t : TypeId) (x ix : AV) : Tree AV :=
  match ix.num, P.underlying t with
  | some (l, _, i), some (.slice e) =>
    match szOf P e with
    | none => .fail
    | some sz =>
      match x with
      | .view r xs => if r.size = sz then .asrt (0 ≤ i ∧ i < xs.length) (.ret (.pv (r.enc (rd r xs i)))) else .fail
      | .own b =>
        match look b with
        | some (.rows r _ xs) => if r.size = sz then .asrt (0 ≤ i ∧ i < xs.length) (.ret (.rptr b r i 0)) else .fail
        | _ => .fail
      | .slc b off n sz' => if l = true ∧ sz' = sz ∧ 0 ≤ i ∧ i < n then .ret (.ptr b (off + i.toNat * sz)) else .fail
      | .lv n cs => if l = true ∧ 0 ≤ i ∧ i < n ∧ n * sz ≤ cs.length then .ret (.pv (cs.drop (i.toNat * sz))) else .fail
      | _ => .fail
  | some (l, _, i), some (.array n e) =>
    match szOf P e with
    | none => .fail
    | some sz =>
      match x with
      | .ptr b off => if l = true ∧ 0 ≤ i ∧ i < n then .ret (.ptr b (off + i.toNat * sz)) else .fail
      | .pv cs => if l = true ∧ 0 ≤ i ∧ i < n ∧ n * sz ≤ cs.length then .ret (.pv (cs.drop (i.toNat * sz))) else .fail
      | _ => .fail
  | _, _ => .fail
/-- The i-th of cells that are all whole numbers, or all bools. -/
def selInts (k : IntKind) : List AV → Option (List Int)
  | [] => some []
  | a :: l => match a.asIntK k, selInts k l with | some x, some xs => some (x :: xs) | _, _ => none
def selBools : List AV → Option (List Bool)
  | [] => some []
  | a :: l => match a.b, selBools l with | some x, some xs => some (x :: xs) | _, _ => none
def indexV (P : Program) (t : TypeId) (x ix : AV) : Tree AV :=
  match ix.num, P.underlying t, x with
  | some (l, _, i), some (.array n e), .agg cs =>
    match l with
    | true => match szOf P e with
      | some sz => if 0 ≤ i ∧ i < n then Tree.ofOption (partAV P e cs (i.toNat * sz)) else .fail
      | none => .fail
    | false =>
      if isAggT P e || szOf P e != some 1 || cs.length != n then .fail else
      match selBools cs, selInts .i64 cs with
      | some bs, _ => .asrt (0 ≤ i ∧ i < n) (.ret (.bool (bs.getD i.toNat false)))
      | none, some ns => .asrt (0 ≤ i ∧ i < n) (.ret (.int .i64 (ns.getD i.toNat 0)))
      | none, none => .fail
  | some (_, _, i), some .string, .str s => .asrt (0 ≤ i ∧ i < s.length) (.ret (.int .u8 ((s.getD i.toNat 0).toNat : Int)))
  | _, _, _ => .fail

/-- A bound of a slice expression: whether it is a literal, and which. -/
def boundV : Option AV → Option (Option (Bool × Int))
  | none => some none
  | some a => match a.num with | some (l, _, n) => some (some (l, n)) | none => none
def lowOf : Option (Bool × Int) → Int
  | some (_, n) => n
  | none => 0
def highOf (hi : Option (Bool × Int)) (len : Int) : Int :=
  match hi with
  | some (_, n) => n
  | none => len
def litOf : Option (Bool × Int) → Bool
  | some (l, _) => l
  | none => true
def sliceV (P : Program) (t : TypeId) (x : AV) (lo hi mx : Option AV) : Tree AV :=
  match boundV lo, boundV hi, boundV mx with
  | some lo, some hi, some mx =>
    match P.underlying t with
    | some .string =>
      match x, mx with
      | .str s, none =>
        let l := lowOf lo
        let h := highOf hi (s.length : Int)
        .asrt (0 ≤ l ∧ l ≤ h ∧ h ≤ s.length) (.ret (.str ((s.take h.toNat).drop l.toNat)))
      | _, _ => .fail
    | some (.slice e) =>
      match szOf P e with
      | none => .fail
      | some sz =>
        match lo, hi, mx, x with
        | none, some (true, 0), some (true, 0), .view _ _ => .ret .nils
        | none, some (true, 0), some (true, 0), .own _ => .ret .nils
        | none, some (true, 0), some (true, 0), .slc _ _ _ _ => .ret .nils
        | none, some (true, 0), some (true, 0), .lv _ _ => .ret .nils
        | lo, hi, none, .nils =>
          need (litOf lo && litOf hi) (lowOf lo = 0 ∧ lowOf hi = 0) (.ret .nils)
        | lo, some (lh, h), some (lm, m), .nils =>
          need (litOf lo && lh && lm) (lowOf lo = 0 ∧ h = 0 ∧ m = 0) (.ret .nils)
        | lo, hi, none, .view r xs =>
          if r.size = sz then
            let l := lowOf lo
            let h := highOf hi (xs.length : Int)
            .asrt (0 ≤ l ∧ l ≤ h ∧ h ≤ xs.length) (.ret (.view r ((xs.take h.toNat).drop l.toNat)))
          else .fail
        | lo, some (_, h), some (_, m), .view r xs =>
          if r.size = sz then
            let l := lowOf lo
            .asrt (0 ≤ l ∧ l ≤ h ∧ h ≤ m ∧ m ≤ xs.length) (.ret (.view r ((xs.take h.toNat).drop l.toNat)))
          else .fail
        | lo, hi, none, .slc b off n sz' =>
          let l := lowOf lo
          let h := highOf hi (n : Int)
          if litOf lo = true ∧ litOf hi = true ∧ sz' = sz ∧ 0 ≤ l ∧ l ≤ h ∧ h ≤ n ∧ (0 < off + l.toNat * sz ∨ h = n) then .ret (.slc b (off + l.toNat * sz) (h - l).toNat sz) else .fail
        | none, none, none, .own b => .ret (.own b)
        | _, _, _, _ => .fail
    | some (.array n e) =>
      match szOf P e, lo, hi, mx, x with
      | some sz, none, none, none, .ptr b off => .ret (.slc b off n sz)
      | _, _, _, _, _ => .fail
    | _ => .fail
  | _, _, _ => .fail

/-! ### maps -/
def mget {α : Type} (es : List (Int × α)) (k : Int) : Option α :=
  match es with
  | [] => none
  | (j, x) :: es => if j = k then some x else mget es k
def mput {α : Type} (es : List (Int × α)) (k : Int) (v : α) : List (Int × α) :=
  match es with
  | [] => [(k, v)]
  | (j, x) :: es => if j = k then (j, v) :: es else (j, x) :: mput es k v
def mdel {α : Type} (es : List (Int × α)) (k : Int) : List (Int × α) :=
  match es with
  | [] => []
  | (j, x) :: es => if j = k then es else (j, x) :: mdel es k
/-- The value that is found under a literal key. -/
def lget (es : List (AV × AV)) (k : Int) : Option (Option AV) :=
  match es with
  | [] => some none
  | (.lit _ j, x) :: es => if j = k then some (some x) else lget es k
  | _ :: _ => none
def AV.aggQ : AV → Bool
  | .agg _ => true
  | _ => false
/-- A row as one value. -/
def valAV (r : RTy) (x : r.carrier) : AV :=
  match r.isAgg with
  | true => .agg (r.enc x)
  | false => (match r.enc x with | [c] => c | _ => .any)
def lookupV (P : Program) (look : Nat → Option Blk) (t : TypeId) (x ix : AV) (ok : Bool) : Tree AV :=
  match P.underlying t, x, ix.num with
  | some (.map kt e), .map b, some (l, .i64, i) =>
    match P.underlying kt with
    | some (.int .i64) =>
      (match zeroAV P e with
      | none => .fail
      | some z =>
      match look b with
      | some (.imap r es) =>
        match r.dec z.cells with
        | some d =>
          if z.aggQ = r.isAgg then
            .ret (if ok then .tup [valAV r ((mget es i).getD d), .bool (mget es i).isSome] else valAV r ((mget es i).getD d))
          else .fail
        | none => .fail
      | some (.lmap es) =>
        match l, lget es i with
        | true, some (some a) => .ret (if ok then .tup [a, .blit true] else a)
        | true, some none => .ret (if ok then .tup [z, .blit false] else z)
        | _, _ => .fail
      | _ => .fail)
    | _ => .fail
  | _, _, _ => .fail

/-! ### the making of values -/
def overlay (cs : List AV) (off : Nat) (vs : List AV) : List AV := cs.take off ++ vs ++ cs.drop (off + vs.length)
def fillV (place : Nat → Option (Nat × Nat)) (cs : List AV) : List (Nat × AV) → Option (List AV)
  | [] => some cs
  | (i, v) :: rest =>
    match place i with
    | none => none
    | some (off, size) => if v.cells.length = size ∧ off + size ≤ cs.length then fillV place (overlay cs off v.cells) rest else none
/-- No value of unknown shape. -/
def plainParts : List (Nat × AV) → Bool
  | [] => true
  | (_, .any) :: _ => false
  | (_, .tup _) :: _ => false
  | _ :: l => plainParts l
def placesOf (P : Program) (fs : List Field) : Option (List (Nat × Nat)) := fs.mapM fun f => (P.info? f.type).map fun i => (f.offset, i.size)
def buildV (P : Program) (t : TypeId) (parts : List (Nat × AV)) : Tree AV :=
  if plainParts parts then
  match P.info? t with
  | none => .fail
  | some it =>
    match it.zero with
    | none => .fail
    | some z =>
      match P.underlying t with
      | some (.struct fs) =>
        match placesOf P fs.toList with
        | some places => match fillV (fun i => places[i]?) (ofValue z).cells parts with
          | some cs => .ret (.agg cs)
          | none => .fail
        | none => .fail
      | some (.array _ e) => match szOf P e with
        | some sz => match fillV (fun i => some (i * sz, sz)) (ofValue z).cells parts with
          | some cs => .ret (.agg cs)
          | none => .fail
        | none => .fail
      | _ => .fail
  else .fail
def repeatCells (z : List AV) : Nat → List AV
  | 0 => []
  | n + 1 => repeatCells z n ++ z

def typeAssertV (P : Program) (x : AV) (asserted : TypeId) (ok : Bool) : Tree AV :=
  match P.underlying asserted with
  | some (.interface _) => .fail
  | none => .fail
  | some _ =>
    match x with
    | .iface t v => if t = asserted then .ret (if ok then .tup [v, .blit true] else v)
      else match ok, zeroAV P asserted with | true, some z => .ret (.tup [z, .blit false]) | _, _ => .fail
    | .niliface => match ok, zeroAV P asserted with | true, some z => .ret (.tup [z, .blit false]) | _, _ => .fail
    | _ => .fail

/-- The bytes of a slice of bytes. -/
def bytesOf (look : Nat → Option Blk) : AV → Option (List Int)
  | .view (.int .u8) xs => some xs
  | .nils => some []
  | .own b => match look b with | some (.rows (.int .u8) _ xs) => some xs | _ => none
  | _ => none
def convertV (P : Program) (look : Nat → Option Blk) (src dst : TypeId) (x : AV) : Tree AV :=
  match P.underlying src, P.underlying dst, x.num with
  | some _, some (.int k), some (l, _, n) => .ret (mkInt l k (k.wrap n))
  | some (.slice e), some .string, none =>
    match P.underlying e with
    | some (.int .u8) => match bytesOf look x with | some xs => .ret (.str (xs.map fun n => UInt8.ofNat n.toNat)) | none => .fail
    | _ => .fail
  | some .string, some .string, none => match x with | .str s => .ret (.str s) | _ => .fail
  | _, _, _ => .fail

def lenV (P : Program) (look : Nat → Option Blk) (t : TypeId) (x : AV) : Tree AV :=
  match P.underlying t with
  | some .string => match x with | .str s => .ret (.int .i64 (s.length : Int)) | _ => .fail
  | some (.array n _) => .ret (.lit .i64 (n : Int))
  | some (.slice _) =>
    match x with
    | .view _ xs => .ret (.int .i64 (xs.length : Int))
    | .nils => .ret (.lit .i64 0)
    | .slc _ _ n _ => .ret (.lit .i64 (n : Int))
    | .lv n _ => .ret (.lit .i64 (n : Int))
    | .own b => match look b with | some (.rows _ _ xs) => .ret (.int .i64 (xs.length : Int)) | _ => .fail
    | _ => .fail
  | some (.map _ _) =>
    match x with
    | .nilmap => .ret (.lit .i64 0)
    | .map b => match look b with | some (.imap _ es) => .ret (.int .i64 (es.length : Int)) | _ => .fail
    | _ => .fail
  | _ => .fail

def minI (x y : Int) : Int := if y < x then y else x
def maxI (x y : Int) : Int := if y > x then y else x
def foldNum (f : Int → Int → Int) : AV → List AV → Tree AV
  | a, [] => .ret a
  | a, b :: l =>
    match a.num, b.num with
    | some (la, k, x), some (lb, k', y) => if k = k' then foldNum f (mkInt (la && lb) k (f x y)) l else .fail
    | _, _ => .fail

/-! ### handing values to a contract -/
mutual
def AV.pureV : AV → Bool
  | .ptr _ _ => false
  | .rptr _ _ _ _ => false
  | .own _ => false
  | .slc _ _ _ _ => false
  | .map _ => false
  | .any => true
  | .pv cs => AV.pureL cs
  | .lv _ cs => AV.pureL cs
  | .fn _ a b => AV.pureL a && AV.pureL b
  | .iface _ v => v.pureV
  | .agg cs => AV.pureL cs
  | .tup cs => AV.pureL cs
  | _ => true
def AV.pureL : List AV → Bool
  | [] => true
  | a :: l => a.pureV && AV.pureL l
end
mutual
def AV.viewFree : AV → Bool
  | .pv _ => false
  | .lv _ _ => false
  | .view _ _ => false
  | .fn _ a b => AV.viewFreeL a && AV.viewFreeL b
  | .iface _ v => v.viewFree
  | .agg cs => AV.viewFreeL cs
  | .tup cs => AV.viewFreeL cs
  | _ => true
def AV.viewFreeL : List AV → Bool
  | [] => true
  | a :: l => a.viewFree && AV.viewFreeL l
end
def RTy.free : RTy → Bool
  | .ints _ => false
  | _ => true
def blkFree : Blk → Bool
  | .cells cs => AV.viewFreeL cs
  | .rows r _ _ => r.free
  | .imap r _ => r.free
  | .lmap _ => false
mutual
def AV.shift (k : Nat) : AV → AV
  | .ptr b off => .ptr (k + b) off
  | .rptr b r i off => .rptr (k + b) r i off
  | .own b => .own (k + b)
  | .slc b off n sz => .slc (k + b) off n sz
  | .map b => .map (k + b)
  | .fn f a b => .fn f (AV.shiftL k a) (AV.shiftL k b)
  | .iface t v => .iface t (v.shift k)
  | .agg cs => .agg (AV.shiftL k cs)
  | .tup cs => .tup (AV.shiftL k cs)
  | .pv cs => .pv (AV.shiftL k cs)
  | .lv n cs => .lv n (AV.shiftL k cs)
  | v => v
def AV.shiftL (k : Nat) : List AV → List AV
  | [] => []
  | a :: l => a.shift k :: AV.shiftL k l
end
def Blk.shift (k : Nat) : Blk → Blk
  | .cells cs => .cells (AV.shiftL k cs)
  | .lmap es => .lmap (es.map fun (a, b) => (a.shift k, b.shift k))
  | b => b
mutual
def lowerV (look : Nat → Option Blk) : Nat → AV → Option AV
  | 0, _ => none
  | d + 1, v =>
    match v with
    | .own b => match look b with | some (.rows r _ xs) => some (.view r xs) | _ => none
    | .slc b off n sz => match look b with
      | some (.cells cs) => if off + n * sz ≤ cs.length then (match lowerL look d ((cs.drop off).take (n * sz)) with | some l => some (.lv n l) | none => none) else none
      | _ => none
    | .ptr b off => match look b with
      | some (.cells cs) => if off ≤ cs.length then (match lowerL look d (cs.drop off) with | some l => some (.pv l) | none => none) else none
      | _ => none
    | .rptr _ _ _ _ => none
    | .map _ => some .any
    | .pv cs => match lowerL look d cs with | some l => some (.pv l) | none => none
    | .lv n cs => match lowerL look d cs with | some l => some (.lv n l) | none => none
    | .fn f a b => match lowerL look d a, lowerL look d b with | some x, some y => some (.fn f x y) | _, _ => none
    | .iface t v => match lowerV look d v with | some x => some (.iface t x) | none => none
    | .agg cs => match lowerL look d cs with | some l => some (.agg l) | none => none
    | .tup cs => match lowerL look d cs with | some l => some (.tup l) | none => none
    | v => some v
def lowerL (look : Nat → Option Blk) : Nat → List AV → Option (List AV)
  | 0, _ => none
  | _ + 1, [] => some []
  | d + 1, a :: l => match lowerV look d a, lowerL look d l with | some x, some xs => some (x :: xs) | _, _ => none
end

/-- Whom a call calls, and what it hands in. -/
def recvAt (P : Program) (t : TypeId) (x : AV) (pointer : Bool) : Option AV :=
  match P.underlying t, pointer with
  | some (.pointer _), true => some x
  | some (.pointer _), false => none
  | some _, false => some x
  | _, _ => none
def callTo (P : Program) (ρ : Operand → AV) (c : Call) : Option (Nat × List AV) :=
  match c.callee with
  | .value f =>
    match ρ f with
    | .fn (.func g) first captured => some (g, first ++ c.args.toList.map ρ ++ captured)
    | .fn (.via t path g pointer) first _ =>
      if path.isEmpty then
        match first ++ c.args.toList.map ρ with
        | x :: rest => match recvAt P t x pointer with | some x => some (g, x :: rest) | none => none
        | [] => none
      else none
    | _ => none
  | .invoke recv name =>
    match ρ recv with
    | .iface t v =>
      match P.info? t with
      | some i =>
        match i.methods.find? (·.name == name) with
        | some m =>
          match m.func with
          | some (g, pointer) => if m.path.isEmpty then (match recvAt P t v pointer with | some x => some (g, x :: c.args.toList.map ρ) | none => none) else none
          | none => none
        | none => none
      | none => none
    | _ => none
  | .builtin _ => none

/-- A whole array as a slice; one without elements is told as a slice that may be nil. -/
def slcN (b n sz : Nat) : AV := match n with | 0 => .nils | k + 1 => .slc b 0 (k + 1) sz

/-- What an operation that changes no block that is there comes to: a value, and the blocks that it makes. -/
def resD (C : Cfg) (base : Nat) (o : Oper) (ρ : Operand → AV) (look : Nat → Option Blk) : Tree (AV × List Blk) :=
  let v (t : Tree AV) : Tree (AV × List Blk) := t.bind fun a => .ret (a, [])
  match o.op with
  | .move x => v (.ret (ρ x))
  | .assign x => v (.ret (ρ x))
  | .pick c a b => v (pickV (ρ c) (ρ a) (ρ b))
  | .nilCheck x => v (match ρ x with | .ptr b o => .ret (.ptr b o) | .rptr b r i o => .ret (.rptr b r i o) | .pv cs => .ret (.pv cs) | .fn (.func f) a b => .ret (.fn (.func f) a b) | _ => .fail)
  | .binOp op t x y _ => v (binOpV C.P op t (ρ x) (ρ y))
  | .unOp op _ x => v (unOpV op (ρ x))
  | .convert s d x => v (convertV C.P look s d (ρ x))
  | .makeInterface t x => v (match C.P.underlying t with | some (.interface _) => .fail | none => .fail | some _ => .ret (.iface t (ρ x)))
  | .makeFunc f first captured => v (.ret (.fn f (first.toList.map ρ) (captured.toList.map ρ)))
  | .fieldAddr s x f => v (fieldAddrV C.P s (ρ x) f)
  | .field s x f => v (fieldV C.P s (ρ x) f)
  | .load t x => v (loadV C.P look t (ρ x))
  | .indexAddr t x i => v (indexAddrV C.P look t (ρ x) (ρ i))
  | .index t x i => v (indexV C.P t (ρ x) (ρ i))
  | .slice t x lo hi mx => v (sliceV C.P t (ρ x) (lo.map ρ) (hi.map ρ) (mx.map ρ))
  | .lookup t x i ok => v (lookupV C.P look t (ρ x) (ρ i) ok)
  | .extract t i => v (match ρ t with | .tup vs => (match vs[i]? with | some a => .ret a | none => .fail) | _ => .fail)
  | .typeAssert x _ t ok => v (typeAssertV C.P (ρ x) t ok)
  | .build t parts => v (buildV C.P t (parts.toList.map fun (i, x) => (i, ρ x)))
  | .alloc t => match zeroAV C.P t with
    | some z => .ret (.ptr base 0, [.cells z.cells])
    | none => .fail
  | .box _ x => match ρ x with
    | .any => .fail
    | .tup _ => .fail
    | a => .ret (.ptr base 0, [.cells a.cells])
  | .buildSlice t n parts =>
    match C.P.underlying t with
    | some (.slice e) =>
      match szOf C.P e, zeroAV C.P e with
      | some (sz + 1), some z =>
        if n * (sz + 1) ≤ 16777216 ∧ z.cells.length = sz + 1 ∧ plainParts (parts.toList.map fun (i, x) => (i, ρ x)) = true then
          match fillV (fun i => some (i * (sz + 1), sz + 1)) (repeatCells z.cells n) (parts.toList.map fun (i, x) => (i, ρ x)) with
          | some cs => .ret (slcN base n (sz + 1), [.cells cs])
          | none => .fail
        else .fail
      | _, _ => .fail
    | _ => .fail
  | .makeMap t none =>
    match C.P.underlying t with
    | some (.map _ e) => match C.rty e with
      | some r => .ret (.map base, [.imap r []])
      | none => .ret (.map base, [.lmap []])
    | _ => .fail
  | .call c =>
    match c.callee with
    | .builtin .len => match c.argTypes[0]?, c.args[0]? with
      | some t, some x => v (lenV C.P look t (ρ x))
      | _, _ => .fail
    | .builtin .min => match c.args.toList.map ρ with | a :: l => v (foldNum minI a l) | [] => .fail
    | .builtin .max => match c.args.toList.map ρ with | a :: l => v (foldNum maxI a l) | [] => .fail
    | .builtin _ => .fail
    | _ =>
      match callTo C.P ρ c with
      | some (g, args) =>
        match findPcon C.pcon g with
        | some f => v (Tree.ofOption (f args))
        | none =>
          match findCon C.con g with
          | some con =>
            if AV.pureL args then (con args).bind fun r => .ret (r.1.shift base, r.2.map (Blk.shift base))
            else match lowerL look 24 args with
              | some args => (con args).bind fun r => if r.1.viewFree && r.2.all blkFree then .ret (r.1.shift base, r.2.map (Blk.shift base)) else .fail
              | none => .fail
          | none => .fail
      | none => .fail
  | _ => .fail

end Go.Fx
