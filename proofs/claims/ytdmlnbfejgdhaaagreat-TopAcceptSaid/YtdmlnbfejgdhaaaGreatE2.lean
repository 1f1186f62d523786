import Derived.Test.YtdmlnbfejgdhaaaGreatEb
namespace Go.Fx
open Go Go.Proofs
def stepG (m b:Int):Int:=orI .i64 (shlI .i64 m 8) (IntKind.i64.wrap b)
def TGt (x:List Int × Int × Int):St:=⟨puts (J 20) [(0,.view (.int .u8) x.1),(3,.int .i64 x.2.1),(6,.int .i64 x.1.length),(7,.int .i64 x.2.2)],[],0⟩
def sGt:List Sh:=sets (Js 20) [(0,.keep),(3,.int),(6,.keep),(7,.int)]
def eGt:List Sh:=sets (Js 20) [(3,.keep)]
def EGt (m:Int):Ex × St:=(.exit 0,⟨puts (J 20) [(3,.int .i64 m)],[],0⟩)
theorem bGt (xs : List Int) (m i : Int) : roundN c218 60 72 (loopAt c218.P 72 3) (norm2 0 [] [] sGt) (norm2 0 [] [] eGt) (TGt (xs, m, i)) =
    .ite (decide (i < xs.length)) (.asrt (0≤i∧i < xs.length) (.ret (.normal,TGt (xs,stepG m (rd (.int .u8) xs i),IntKind.i64.wrap (i+1))))) (.ret (EGt m)):=by kernel_rfl
def gGt (σ:St):Option (List Int × Int × Int) :=
 match nth σ.tmps 0,nth σ.tmps 3,nth σ.tmps 7 with
 | .view (.int .u8) xs,.int .i64 m,.int .i64 i=>some (xs,m,i)
 | _,_,_=>none
def LGt:LoopCon:=rangeF (r:=.int .u8) 0 (norm2 0 [] [] sGt) TGt gGt (fun _ _=>True) stepG (fun _=>EGt)
theorem lGt (hs:SubOf c218.P 72 (.loop (loopAt c218.P 72 3))):SoundLoop c218 (loopAt c218.P 72 3) LGt :=
 range_fold (C:=c218) (g:=72) (l:=3) c218_good 60 0 (norm2 0 [] [] sGt) (norm2 0 [] [] eGt) (Weak.norm2 0 [] [] sGt) (Weak.norm2 0 [] [] eGt) hs (.int .u8) TGt gGt (fun _ _=>True) stepG (fun _=>EGt) (fun _ _=>by intro h; cases h)
  (fun xs x i h0 hi hm _=>.of_eq (bGt xs x i) (by
   rw [wrap_fits (by omega) (by unfold maxI64 at hm; omega)]
   exact (Tree.out_ite_true (decide_eq_true hi)).2 ⟨⟨h0,hi⟩,rfl⟩))
  (fun xs x i hi=>.of_eq (bGt xs x i) ((Tree.out_ite_false (decide_eq_false (by omega))).2 rfl))
noncomputable def c219:Cfg:=c218.addLoop 72 3 LGt
theorem c219_good:GoodCfg c219:=c218_good.addLoop (by unfold OneLoop; kernel_rfl) lGt
def getN (xs:List Int):Int:=foldX stepG 0 (xs.drop (0:Int).toNat)
theorem okX_true {X ρ:Type} (nxt:X→ρ→X):∀ (l:List ρ) (x:X),okX nxt (fun _ _=>(none:Option Unit)) (fun _ _=>True) x l
 | [],_=>trivial
 | _ :: l,_=>⟨trivial,fun _=>okX_true nxt l _⟩
theorem fGetN (xs:List Int):callC c219 60 72 [.view (.int .u8) xs]=.asrt (0=0∧TGt (xs,0,0)=TGt (xs,0,0)) (.asrt (0≤(0:Int)∧(xs.length:Int) < maxI64∧okX stepG (fun _ _=>(none:Option Unit)) (fun _ _=>True) 0 (xs.drop (0:Int).toNat)) (.ret (.int .i64 (getN xs),[]))):=by kernel_rfl
def conGetN:Con:=flatCon (d1 (dView (.int .u8))) (fun xs=>(xs.length:Int) < 17592186044416) fun xs=>.int .i64 (getN xs)
theorem conGetN_valid:ValidCon c219.P 72 conGetN:=flatCon_valid c219_good 60 (by kernel_rfl) fun xs h=>⟨_,fGetN xs,.asrt ⟨rfl,rfl⟩ (.asrt ⟨Int.le_refl _,by unfold maxI64; omega,okX_true _ _ _⟩ (.ret (.refl _) rfl))⟩
noncomputable def c220:Cfg:=c219.addQuiet 72 conGetN
theorem c220_good:GoodCfg c220:=c219_good.addQuiet conGetN_valid flatCon_quiet
theorem pHas1 (b off:Nat):inlineX c220 (exec c220 20) 126 [.ptr b off] [] (b+1)=.ret (.ptr b (off+1),[],b+1):=by kernel_rfl
noncomputable def c221:Cfg:=c220.addPcon 126 (ptrCon fun off=>off+1)
theorem c221_good:GoodCfg c221:=c220_good.addPcon (pcon_of c220_good (n:=20) (by kernel_rfl) fun b off=>⟨_,.of_eq (pHas1 b off) rfl⟩)
theorem pHas2 (b off:Nat):inlineX c221 (exec c221 20) 127 [.ptr b off] [] (b+1)=.ret (.ptr b (off+2),[],b+1):=by kernel_rfl
noncomputable def c222:Cfg:=c221.addPcon 127 (ptrCon fun off=>off+2)
theorem c222_good:GoodCfg c222:=c221_good.addPcon (pcon_of c221_good (n:=20) (by kernel_rfl) fun b off=>⟨_,.of_eq (pHas2 b off) rfl⟩)
theorem pHas3 (b off:Nat):inlineX c222 (exec c222 20) 128 [.ptr b off] [] (b+1)=.ret (.ptr b (off+3),[],b+1):=by kernel_rfl
noncomputable def c223:Cfg:=c222.addPcon 128 (ptrCon fun off=>off+3)
theorem c223_good:GoodCfg c223:=c222_good.addPcon (pcon_of c222_good (n:=20) (by kernel_rfl) fun b off=>⟨_,.of_eq (pHas3 b off) rfl⟩)
theorem pHas4 (b off:Nat):inlineX c223 (exec c223 20) 129 [.ptr b off] [] (b+1)=.ret (.ptr b (off+4),[],b+1):=by kernel_rfl
noncomputable def c224:Cfg:=c223.addPcon 129 (ptrCon fun off=>off+4)
theorem c224_good:GoodCfg c224:=c223_good.addPcon (pcon_of c223_good (n:=20) (by kernel_rfl) fun b off=>⟨_,.of_eq (pHas4 b off) rfl⟩)
theorem pHas5 (b off:Nat):inlineX c224 (exec c224 20) 130 [.ptr b off] [] (b+1)=.ret (.ptr b (off+5),[],b+1):=by kernel_rfl
noncomputable def c225:Cfg:=c224.addPcon 130 (ptrCon fun off=>off+5)
theorem c225_good:GoodCfg c225:=c224_good.addPcon (pcon_of c224_good (n:=20) (by kernel_rfl) fun b off=>⟨_,.of_eq (pHas5 b off) rfl⟩)
theorem pHas6 (b off:Nat):inlineX c225 (exec c225 20) 131 [.ptr b off] [] (b+1)=.ret (.ptr b (off+6),[],b+1):=by kernel_rfl
noncomputable def c226:Cfg:=c225.addPcon 131 (ptrCon fun off=>off+6)
theorem c226_good:GoodCfg c226:=c225_good.addPcon (pcon_of c225_good (n:=20) (by kernel_rfl) fun b off=>⟨_,.of_eq (pHas6 b off) rfl⟩)
theorem pHas7 (b off:Nat):inlineX c226 (exec c226 20) 132 [.ptr b off] [] (b+1)=.ret (.ptr b (off+7),[],b+1):=by kernel_rfl
noncomputable def c227:Cfg:=c226.addPcon 132 (ptrCon fun off=>off+7)
theorem c227_good:GoodCfg c227:=c226_good.addPcon (pcon_of c226_good (n:=20) (by kernel_rfl) fun b off=>⟨_,.of_eq (pHas7 b off) rfl⟩)
theorem pHas8 (b off:Nat):inlineX c227 (exec c227 20) 133 [.ptr b off] [] (b+1)=.ret (.ptr b (off+8),[],b+1):=by kernel_rfl
noncomputable def c228:Cfg:=c227.addPcon 133 (ptrCon fun off=>off+8)
theorem c228_good:GoodCfg c228:=c227_good.addPcon (pcon_of c227_good (n:=20) (by kernel_rfl) fun b off=>⟨_,.of_eq (pHas8 b off) rfl⟩)
theorem pHas9 (b off:Nat):inlineX c228 (exec c228 20) 134 [.ptr b off] [] (b+1)=.ret (.ptr b (off+9),[],b+1):=by kernel_rfl
noncomputable def c229:Cfg:=c228.addPcon 134 (ptrCon fun off=>off+9)
theorem c229_good:GoodCfg c229:=c228_good.addPcon (pcon_of c228_good (n:=20) (by kernel_rfl) fun b off=>⟨_,.of_eq (pHas9 b off) rfl⟩)
theorem pHas10 (b off:Nat):inlineX c229 (exec c229 20) 135 [.ptr b off] [] (b+1)=.ret (.ptr b (off+10),[],b+1):=by kernel_rfl
noncomputable def c230:Cfg:=c229.addPcon 135 (ptrCon fun off=>off+10)
theorem c230_good:GoodCfg c230:=c229_good.addPcon (pcon_of c229_good (n:=20) (by kernel_rfl) fun b off=>⟨_,.of_eq (pHas10 b off) rfl⟩)
theorem pHas11 (b off:Nat):inlineX c230 (exec c230 20) 136 [.ptr b off] [] (b+1)=.ret (.ptr b (off+11),[],b+1):=by kernel_rfl
noncomputable def c231:Cfg:=c230.addPcon 136 (ptrCon fun off=>off+11)
theorem c231_good:GoodCfg c231:=c230_good.addPcon (pcon_of c230_good (n:=20) (by kernel_rfl) fun b off=>⟨_,.of_eq (pHas11 b off) rfl⟩)
theorem pHas12 (b off:Nat):inlineX c231 (exec c231 20) 137 [.ptr b off] [] (b+1)=.ret (.ptr b (off+12),[],b+1):=by kernel_rfl
noncomputable def c232:Cfg:=c231.addPcon 137 (ptrCon fun off=>off+12)
theorem c232_good:GoodCfg c232:=c231_good.addPcon (pcon_of c231_good (n:=20) (by kernel_rfl) fun b off=>⟨_,.of_eq (pHas12 b off) rfl⟩)
abbrev X11:=List Int × (List Int × Int) × Int
def zerosG (n:Nat):List AV:=List.replicate n (.lit .i64 0)
def opG (k:Int) (d:AV):List AV:=.int .i64 k :: (zerosG 12 ++ [d])
def T11 (x:X11):St:=⟨puts (J 90) [(2,.ptr 0 0),(4,.ptr 1 0),(66,.view (.int .u8) x.1),(67,.int .i64 x.1.length),(68,.int .i64 x.2.2)],
 [(0,.cells (zerosG 13 ++ [.nils])),(1,.cells (opG x.2.1.2 (.own 3))),(3,.rows (.int .i64) 3 x.2.1.1)],4⟩
def s11:List Sh:=sets (Js 90) [(2,.keep),(4,.keep),(66,.keep),(67,.keep),(68,.int)]
def e11:List Sh:=sets (Js 90) [(2,.keep),(4,.keep)]
def E11 (x:List Int × Int):Ex × St:=(.exit 2,⟨puts (J 90) [(2,.ptr 0 0),(4,.ptr 1 0)],[(0,.cells (zerosG 13 ++ [.nils])),(1,.cells (opG x.2 (.own 3))),(3,.rows (.int .i64) 3 x.1)],4⟩)
def q11 (ss:List Sh) (σ:St):St:=norm2 3 [.cell 1 13] [0,1,3] ss (ownCell 1 13 (.int .i64) 3 σ)
theorem weak_q11 (ss:List Sh) (σ:St):Weak 3 σ (q11 ss σ):=(Weak.ownCell 3 1 13 (.int .i64) 3 σ).trans (Weak.norm2 3 [.cell 1 13] [0,1,3] ss _)
def ok11 (x:List Int × Int) (r:Int):Prop:=(x.1 ++ [IntKind.i64.wrap r]).length*8≤140737488355328
def nx11 (x:List Int × Int) (r:Int):List Int × Int:=(x.1 ++ [IntKind.i64.wrap r],x.2)
theorem b11 (xs : List Int) (x : List Int × Int) (i : Int) : roundN c232 60 33 (loopAt c232.P 33 17) (q11 s11) (q11 e11) (T11 (xs, x, i)) =
    .ite (decide (i < xs.length)) (.asrt (0≤i∧i < xs.length) (.asrt (ok11 x (rd (.int .u8) xs i))
      (.ret (.normal,T11 (xs,nx11 x (rd (.int .u8) xs i),IntKind.i64.wrap (i+1)))))) (.ret (E11 x)):=by kernel_rfl
def g11 (σ:St):Option X11 :=
 match nth σ.tmps 66,nth σ.tmps 68,σ.heap with
 | .view (.int .u8) xs,.int .i64 i,[_,(_,.cells (.int .i64 k :: _)),(_,.rows (.int .i64) _ ys)]=>some (xs,(ys,k),i)
 | _,_,_=>none
def L11:LoopCon:=rangeF (r:=.int .u8) 3 (q11 s11) T11 g11 ok11 nx11 (fun _=>E11)
theorem l11 (hs:SubOf c232.P 33 (.loop (loopAt c232.P 33 17))):SoundLoop c232 (loopAt c232.P 33 17) L11 :=
 range_fold (C:=c232) (g:=33) (l:=17) c232_good 60 3 (q11 s11) (q11 e11) (weak_q11 s11) (weak_q11 e11) hs (.int .u8) T11 g11 ok11 nx11 (fun _=>E11) (fun _ _=>by intro h; cases h)
  (fun xs x i h0 hi hm hok=>.of_eq (b11 xs x i) (by
   rw [wrap_fits (by omega) (by unfold maxI64 at hm; omega)]
   exact (Tree.out_ite_true (decide_eq_true hi)).2 ⟨⟨h0,hi⟩,hok,rfl⟩))
  (fun xs x i hi=>.of_eq (b11 xs x i) ((Tree.out_ite_false (decide_eq_false (by omega))).2 rfl))
noncomputable def c233:Cfg:=c232.addLoop 33 17 L11
theorem c233_good:GoodCfg c233:=c232_good.addLoop (by unfold OneLoop; kernel_rfl) l11
def z0:AV:=.lit .i64 0
def zeroOp:Fu.Op:=⟨0,0,⟨0,0,0,0,0,0⟩,0,0,0,0,0,[]⟩
def noGet:Tree (AV × List Blk):=.ret (.tup [.agg (zerosG 13 ++ [.nils]),.blit false],[])
def noO:Fu.Op × Bool:=(zeroOp,false)
def encO (x:Fu.Op × Bool):AV:=.tup [.agg (encOp x.1),.bool x.2]
def kindOf (b:List Int):Int:=IntKind.i64.wrap (rd (.int .u8) b 0)
def tkB (b:List Int) (s:Int):List Int:=(b.take s.toNat).drop (0:Int).toNat
def dpB (b:List Int) (s:Int):List Int:=(b.take (b.length:Int).toNat).drop s.toNat
def rdT (b:List Int) (s:Int) (k:Int→List Int→Tree (AV × List Blk)):Tree (AV × List Blk) :=
 .ite (decide ((b.length:Int) < s)) noGet (.asrt (0≤(0:Int)∧0≤s∧s≤b.length) (.asrt (((tkB b s).length:Int) < 17592186044416) (.asrt (0≤s∧s≤b.length∧(b.length:Int)≤b.length) (k (getN (tkB b s)) (dpB b s)))))
def rdV (b:List Int) (s:Int) (k:Int→List Int→Fu.Op × Bool):Fu.Op × Bool:=bif decide ((b.length:Int) < s) then noO else k (getN (tkB b s)) (dpB b s)
def finG (o:Fu.Op) (cs:List AV) (b:List Int):Tree (AV × List Blk) :=
 .asrt (decide ((b.length:Int) > 0)=false→(o.D.length:Int)≤17592186044415) (.ite (decide ((b.length:Int) > 0) || !mayOp o) noGet (.ret (.tup [.agg cs,.blit true],[])))
def finV (o:Fu.Op) (b:List Int):Fu.Op × Bool:=bif decide ((b.length:Int) > 0) || !mayOp o then noO else (o,true)
noncomputable def junkG (b:List Int) (path:List Nat):Tree (AV × List Blk):=nav0 path (frozen (callC c233 200 33) [.view (.int .u8) b])
noncomputable def lastG (b0:List Int) (path:List Nat) (o:Fu.Op) (cs:List AV) (b:List Int):Tree (AV × List Blk):=.ite (kindOf b0 == 4) (junkG b0 path) (finG o cs b)
def rdP (n:Nat):List Nat:=(List.replicate n [2,0,0,0]).flatten
noncomputable def get0 (b:List Int):Tree (AV × List Blk) :=
 rdT (dpB b 1) 1 fun c r=>rdT r 1 fun t r=>rdT r 1 fun mx r=>rdT r 1 fun m r=>rdT r 1 fun k r=>rdT r 1 fun e r =>
  lastG b ([2,0,0,1] ++ rdP 6 ++ [1]) ⟨kindOf b,0,⟨c,t,mx,m,k,e⟩,0,0,0,0,0,[]⟩ [.int .i64 (kindOf b),z0,.int .i64 c,.int .i64 t,.int .i64 mx,.int .i64 m,.int .i64 k,.int .i64 e,z0,z0,z0,z0,z0,.nils] r
def get0V (b:List Int):Fu.Op × Bool:=rdV (dpB b 1) 1 fun c r=>rdV r 1 fun t r=>rdV r 1 fun mx r=>rdV r 1 fun m r=>rdV r 1 fun k r=>rdV r 1 fun e r=>finV ⟨kindOf b,0,⟨c,t,mx,m,k,e⟩,0,0,0,0,0,[]⟩ r
noncomputable def get1 (b:List Int):Tree (AV × List Blk) :=
 rdT (dpB b 1) 2 fun id r=>rdT r 1 fun t r=>rdT r 1 fun mx r =>
  lastG b ([2,0,0,2,1] ++ rdP 3 ++ [1]) ⟨kindOf b,id,⟨0,0,0,0,0,0⟩,t,mx,0,0,0,[]⟩ [.int .i64 (kindOf b),.int .i64 id,z0,z0,z0,z0,z0,z0,.int .i64 t,.int .i64 mx,z0,z0,z0,.nils] r
def get1V (b:List Int):Fu.Op × Bool:=rdV (dpB b 1) 2 fun id r=>rdV r 1 fun t r=>rdV r 1 fun mx r=>finV ⟨kindOf b,id,⟨0,0,0,0,0,0⟩,t,mx,0,0,0,[]⟩ r
noncomputable def get2 (b:List Int):Tree (AV × List Blk) :=
 rdT (dpB b 1) 2 fun id r =>
  lastG b ([2,0,0,2,2,1] ++ rdP 1 ++ [1]) ⟨kindOf b,id,⟨0,0,0,0,0,0⟩,0,0,0,0,0,[]⟩ [.int .i64 (kindOf b),.int .i64 id,z0,z0,z0,z0,z0,z0,z0,z0,z0,z0,z0,.nils] r
def get2V (b:List Int):Fu.Op × Bool:=rdV (dpB b 1) 2 fun id r=>finV ⟨kindOf b,id,⟨0,0,0,0,0,0⟩,0,0,0,0,0,[]⟩ r
noncomputable def get3 (b:List Int):Tree (AV × List Blk) :=
 rdT (dpB b 1) 1 fun wi r=>rdT r 1 fun c r=>rdT r 2 fun v r =>
  lastG b ([2,0,0,2,2,2,1] ++ rdP 3 ++ [1]) ⟨kindOf b,0,⟨0,0,0,0,0,0⟩,0,0,wi,c,v,[]⟩ [.int .i64 (kindOf b),z0,z0,z0,z0,z0,z0,z0,z0,z0,.int .i64 wi,.int .i64 c,.int .i64 v,.nils] r
def get3V (b:List Int):Fu.Op × Bool:=rdV (dpB b 1) 1 fun wi r=>rdV r 1 fun c r=>rdV r 2 fun v r=>finV ⟨kindOf b,0,⟨0,0,0,0,0,0⟩,0,0,wi,c,v,[]⟩ r
def dsOf (b0 b:List Int):List Int × Int:=foldX nx11 ([],kindOf b0) ((dpB b 1).drop (0:Int).toNat)
def opD (x:List Int × Int):Fu.Op:=⟨x.2,0,⟨0,0,0,0,0,0⟩,0,0,0,0,0,x.1⟩
def bad4 (b:List Int):Bool:=(b.length:Int) == 0 || IntKind.i64.wrap (rd (.int .u8) b 0) != IntKind.i64.wrap ((b.length:Int)-1)
def get4 (b0 b:List Int):Tree (AV × List Blk) :=
  .asrt (((b.length:Int) == 0)=false→0≤(0:Int)∧(0:Int) < b.length)
   (.ite (bad4 b) noGet
    (.asrt (0≤(1:Int)∧(1:Int)≤b.length∧(b.length:Int)≤b.length)
     (.asrt (3=3∧T11 (dpB b 1,([],kindOf b0),0)=T11 (dpB b 1,([],kindOf b0),0))
      (.asrt (0≤(0:Int)∧((dpB b 1).length:Int) < maxI64∧okX nx11 (fun _ _=>(none:Option Unit)) ok11 ([],kindOf b0) ((dpB b 1).drop (0:Int).toNat))
       (.asrt (((dsOf b0 b).1.length : Int) ≤ 17592186044415) (.ite (!mayOp (opD (dsOf b0 b))) noGet
          (.ret (.tup [.agg (opG (dsOf b0 b).2 (.view (.int .i64) (dsOf b0 b).1)),.blit true],[]))))))))
def get4V (b0 b:List Int):Fu.Op × Bool:=bif bad4 b then noO else bif !mayOp (opD (dsOf b0 b)) then noO else (opD (dsOf b0 b),true)
def kzG (b:List Int):List AV:=[.int .i64 (kindOf b),z0,z0,z0,z0,z0,z0,z0,z0,z0,z0,z0,z0,.nils]
noncomputable def getT (b:List Int):Tree (AV × List Blk) :=
 .ite ((b.length:Int) == 0) noGet (.asrt (0≤(0:Int)∧(0:Int) < b.length) (.asrt (0≤(1:Int)∧(1:Int)≤b.length∧(b.length:Int)≤b.length)
  (.ite (kindOf b == 0) (get0 b) (.ite (kindOf b == 1) (get1 b) (.ite (kindOf b == 2) (get2 b) (.ite (kindOf b == 3) (get3 b)
   (.ite (kindOf b == 4) (get4 b (dpB b 1)) (finG ⟨kindOf b,0,⟨0,0,0,0,0,0⟩,0,0,0,0,0,[]⟩ (kzG b) (dpB b 1)))))))))
theorem fGet (b:List Int):frozen (callC c233 200 33) [.view (.int .u8) b]=getT b:=by kernel_rfl
def getV (b:List Int):Fu.Op × Bool:=bif (b.length:Int) == 0 then noO else bif kindOf b == 0 then get0V b else bif kindOf b == 1 then get1V b else bif kindOf b == 2 then get2V b else bif kindOf b == 3 then get3V b else bif kindOf b == 4 then get4V b (dpB b 1) else finV ⟨kindOf b,0,⟨0,0,0,0,0,0⟩,0,0,0,0,0,[]⟩ (dpB b 1)
theorem zAg:AsArg z0 (.int .i64 0):=.lit rfl
theorem Rez.noG:Rez noGet (encO noO,[]):=.ret (.tup (.cons (.agg (.cons zAg (.cons zAg (.cons zAg (.cons zAg (.cons zAg (.cons zAg (.cons zAg (.cons zAg (.cons zAg (.cons zAg (.cons zAg (.cons zAg (.cons zAg (.cons (.view rfl) .nil))))))))))))))) (.cons (.blit rfl) .nil))) rfl
theorem dpB_len (b:List Int) {s:Int} (_:0≤s):((dpB b s).length:Int)≤b.length:=by unfold dpB; rw [List.length_drop,List.length_take]; omega
theorem tkB_len (b:List Int) (s:Int):((tkB b s).length:Int)≤b.length:=by unfold tkB; rw [List.length_drop,List.length_take]; omega
theorem rdT_rez {b:List Int} {s:Int} {k:Int→List Int→Tree (AV × List Blk)} {v:Int→List Int→Fu.Op × Bool} (hs:0≤s) (hb:(b.length:Int) < 17592186044416) (h:∀ n r,(r.length:Int) < 17592186044416→Rez (k n r) (encO (v n r),[])):Rez (rdT b s k) (encO (rdV b s v),[]):=by
 unfold rdV
 cases hc:decide ((b.length:Int) < s) with
 | true=>exact .itet hc .noG
 | false =>
  have:=of_decide_eq_false hc
  have h2:=tkB_len b s
  have h3:=dpB_len b hs
  exact .itee hc (.asrt ⟨Int.le_refl _,hs,by omega⟩ (.asrt (by omega) (.asrt ⟨hs,by omega,Int.le_refl _⟩ (h _ _ (by omega)))))
theorem finG_rez {o:Fu.Op} {cs:List AV} {b:List Int} (hd:o.D=[]) (hc:AsArgs cs (encOp o)):Rez (finG o cs b) (encO (finV o b),[]):=by
 refine .asrt (fun _=>by rw [hd]; decide) ?_
 unfold finV
 cases hb:decide ((b.length:Int) > 0) || !mayOp o with
 | true=>exact .itet rfl .noG
 | false=>exact .itee rfl (.ret (.tup (.cons (.agg hc) (.cons (.blit rfl) .nil))) rfl)
theorem lastG_rez {o:Fu.Op} {cs:List AV} {b0 b:List Int} {path:List Nat} {k:Int} (h:kindOf b0=k) (hk:(k == 4)=false) (hd:o.D=[]) (hc:AsArgs cs (encOp o)):Rez (lastG b0 path o cs b) (encO (finV o b),[]):=.itee (by rw [h]; exact hk) (finG_rez hd hc)
theorem fold11_len:∀ (l:List Int) (x:List Int × Int),(foldX nx11 x l).1.length=x.1.length+l.length
 | [],_=>rfl
 | _ :: l,x=>by
  show (foldX nx11 (nx11 x _) l).1.length=_
  rw [fold11_len l,List.length_cons]
  unfold nx11
  rw [List.length_append,List.length_singleton]
  omega
theorem ok11_all:∀ (l:List Int) (x:List Int × Int),x.1.length+l.length≤17592186044416→okX nx11 (fun _ _=>(none:Option Unit)) ok11 x l
 | [],_,_=>trivial
 | _ :: l,x,h=>by
  simp only [List.length_cons] at h
  exact ⟨by simp [ok11]; omega,fun _=>ok11_all l _ (by simp [nx11]; omega)⟩
theorem get0_rez {b:List Int} (h0:(kindOf b == 0)=true) (hh:((dpB b 1).length:Int) < 17592186044416):Rez (get0 b) (encO (get0V b),[]) :=
 rdT_rez (by omega) hh fun _ _ hh=>rdT_rez (by omega) hh fun _ _ hh=>rdT_rez (by omega) hh fun _ _ hh=>rdT_rez (by omega) hh fun _ _ hh=>rdT_rez (by omega) hh fun _ _ hh=>rdT_rez (by omega) hh fun _ _ hh=>lastG_rez (eq_of_beq h0) rfl rfl (.cons (.refl _) (.cons zAg (.cons (.refl _) (.cons (.refl _) (.cons (.refl _) (.cons (.refl _) (.cons (.refl _) (.cons (.refl _) (.cons zAg (.cons zAg (.cons zAg (.cons zAg (.cons zAg (.cons (.view rfl) .nil))))))))))))))
theorem get1_rez {b:List Int} (h0:(kindOf b == 1)=true) (hh:((dpB b 1).length:Int) < 17592186044416):Rez (get1 b) (encO (get1V b),[]) :=
 rdT_rez (by omega) hh fun _ _ hh=>rdT_rez (by omega) hh fun _ _ hh=>rdT_rez (by omega) hh fun _ _ hh=>lastG_rez (eq_of_beq h0) rfl rfl (.cons (.refl _) (.cons (.refl _) (.cons zAg (.cons zAg (.cons zAg (.cons zAg (.cons zAg (.cons zAg (.cons (.refl _) (.cons (.refl _) (.cons zAg (.cons zAg (.cons zAg (.cons (.view rfl) .nil))))))))))))))
theorem get2_rez {b:List Int} (h0:(kindOf b == 2)=true) (hh:((dpB b 1).length:Int) < 17592186044416):Rez (get2 b) (encO (get2V b),[]) :=
 rdT_rez (by omega) hh fun _ _ hh=>lastG_rez (eq_of_beq h0) rfl rfl (.cons (.refl _) (.cons (.refl _) (.cons zAg (.cons zAg (.cons zAg (.cons zAg (.cons zAg (.cons zAg (.cons zAg (.cons zAg (.cons zAg (.cons zAg (.cons zAg (.cons (.view rfl) .nil))))))))))))))
theorem get3_rez {b:List Int} (h0:(kindOf b == 3)=true) (hh:((dpB b 1).length:Int) < 17592186044416):Rez (get3 b) (encO (get3V b),[]) :=
 rdT_rez (by omega) hh fun _ _ hh=>rdT_rez (by omega) hh fun _ _ hh=>rdT_rez (by omega) hh fun _ _ hh=>lastG_rez (eq_of_beq h0) rfl rfl (.cons (.refl _) (.cons zAg (.cons zAg (.cons zAg (.cons zAg (.cons zAg (.cons zAg (.cons zAg (.cons zAg (.cons zAg (.cons (.refl _) (.cons (.refl _) (.cons (.refl _) (.cons (.view rfl) .nil))))))))))))))
theorem get4_rez {b c:List Int} (hh:(c.length:Int) < 17592186044416):Rez (get4 b c) (encO (get4V b c),[]):=by
 unfold get4V
 refine .asrt (fun hc=>⟨Int.le_refl _,?_⟩) ?_
 ·have:(c.length:Int)≠0:=by intro e; rw [e] at hc; exact absurd hc (by decide)
  omega
 ·cases hb4:bad4 c with
  | true=>exact .itet rfl .noG
  | false =>
   have hc:(c.length:Int)≠0:=by
    intro e
    unfold bad4 at hb4
    rw [e] at hb4
    cases hb4
   have h2:=dpB_len c (s:=1) (by omega)
   have hl:(((dpB c 1).drop (0:Int).toNat).length:Int)≤c.length:=by rw [List.length_drop]; omega
   have hf:((dsOf b c).1.length:Int)≤c.length:=by
    unfold dsOf
    rw [fold11_len,List.length_nil]
    omega
   refine .itee rfl (.asrt ⟨by omega,by omega,Int.le_refl _⟩ (.asrt ⟨rfl,rfl⟩ (.asrt ⟨Int.le_refl _,by unfold maxI64; omega,ok11_all _ _ (by rw [List.length_nil]; omega)⟩ (.asrt (by omega) ?_))))
   cases hm:!mayOp (opD (dsOf b c)) with
   | true=>exact .itet rfl .noG
   | false=>exact .itee rfl (.ret (.tup (.cons (.agg (.cons (.refl _) (.cons zAg (.cons zAg (.cons zAg (.cons zAg (.cons zAg (.cons zAg (.cons zAg (.cons zAg (.cons zAg (.cons zAg (.cons zAg (.cons zAg (.cons (.refl _) .nil))))))))))))))) (.cons (.blit rfl) .nil))) rfl)
theorem get_rez {b:List Int} (h:(b.length:Int) < 17592186044416):Rez (getT b) (encO (getV b),[]):=by
 unfold getT getV
 cases hb:(b.length:Int) == 0 with
 | true=>exact .itet rfl .noG
 | false =>
 have hb:(b.length:Int)≠0:=by intro e; rw [e] at hb; exact absurd hb (by decide)
 have h1:=dpB_len b (s:=1) (by omega)
 have hh:((dpB b 1).length:Int) < 17592186044416:=by omega
 refine .itee rfl (.asrt ⟨Int.le_refl _,by omega⟩ (.asrt ⟨by omega,by omega,Int.le_refl _⟩ ?_))
 cases h0:kindOf b == 0 with
 | true=>exact .itet rfl (get0_rez h0 hh)
 | false =>
 refine .itee rfl ?_
 cases h1:kindOf b == 1 with
 | true=>exact .itet rfl (get1_rez h1 hh)
 | false =>
 refine .itee rfl ?_
 cases h2:kindOf b == 2 with
 | true=>exact .itet rfl (get2_rez h2 hh)
 | false =>
 refine .itee rfl ?_
 cases h3:kindOf b == 3 with
 | true=>exact .itet rfl (get3_rez h3 hh)
 | false =>
 refine .itee rfl ?_
 cases h4:kindOf b == 4 with
 | true=>exact .itet rfl (get4_rez hh)
 | false=>exact .itee rfl (finG_rez rfl (.cons (.refl _) (.cons zAg (.cons zAg (.cons zAg (.cons zAg (.cons zAg (.cons zAg (.cons zAg (.cons zAg (.cons zAg (.cons zAg (.cons zAg (.cons zAg (.cons (.view rfl) .nil)))))))))))))))
def conGet:Con:=flatCon (d1 (dView (.int .u8))) (fun b=>(b.length:Int) < 17592186044416) fun b=>encO (getV b)
theorem conGet_valid:ValidCon c233.P 33 conGet:=frozenCon_valid c233_good 200 (by kernel_rfl) fun b h=>⟨_,fGet b,get_rez h⟩
noncomputable def c234:Cfg:=c233.addQuiet 33 conGet
theorem c234_good:GoodCfg c234:=c233_good.addQuiet conGet_valid flatCon_quiet
end Go.Fx
