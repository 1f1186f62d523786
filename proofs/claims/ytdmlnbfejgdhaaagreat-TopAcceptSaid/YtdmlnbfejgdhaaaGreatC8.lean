import Derived.Test.YtdmlnbfejgdhaaaGreatC7
import Derived.WalkKit
import Derived.Shelf.RegionOpenPlain
import Derived.Deep.LoopGhost
import Derived.Deep.RegionLaw
import Derived.Lib.Walk
import Derived.Lib.SliceRun
namespace Go.Fx
open Go Go.Proofs Go.RowKit
theorem step_append_row {P : Program} {ops : Array Oper} {o : Oper} {a : Act} {w : World} {K : Act → World → Prop} {Q : Exit → Act → World → Prop} {E : Prop}
    (hg:o.guard=none) (s x:Operand) (t:TypeId) (hop:o.op=Op.call { callee:=Callee.builtin Builtin.append,args:=#[s,x],argTypes:=#[t,t] })
    (e:TypeId) (i:TypeInfo) (size:Nat) (h1:P.underlying t=some (.slice e)) (h2:P.info? e=some i) (h4:i.size=size)
    (b n cap:Nat) (hs:a.eval s=.slice (some ⟨b,0,none⟩) n cap) (cur:Array Value) (hh:w.heap[b]?=some (.cells cur e (0,0)))
    (ad:Addr) (m c:Nat) (news:List Value) (hx:a.eval x=.slice (some ad) m c) (hn:news.length=m*size) (hc:∀ j u,news[j]?=some u→w.cell? (ad.add j)=some u) (h1c:∀ u ∈ news,u.oneCell'=true)
    (hroom:n+m≤cap) (hfit:n*size+news.length≤cur.size)
    (hK:K (a.put o.dst (.slice (some ⟨b,0,none⟩) (n+m) cap)) (w.setRow b (cur.toList.take (n*size) ++ news ++ cur.toList.drop (n*size+news.length)).toArray)) :
    if Region.wanted o (yielded ops a.tmps)=true then Oper.wp P o a w K Q else E:=by
  have hw:Region.wanted o (yielded ops a.tmps)=true:=by simp [Region.wanted,hg]
  rw [if_pos hw]
  subst h4
  have hrun:=run_append_room (P:=P) w t o.type e i h1 h2 b n cap cur hh ad m c news hn hc h1c hroom hfit
  unfold Oper.wp
  have e0:(execOp a.eval o).run P w=.ok (.value (.slice (some ⟨b,0,none⟩) (n+m) cap)) (w.setRow b (cur.toList.take (n*i.size) ++ news ++ cur.toList.drop (n*i.size+news.length)).toArray):=by
    simp [execOp,hop,resolve,invoke,builtin,hs,hx,hrun]
  rw [e0,Oper.upon_value]
  exact hK
set_option maxHeartbeats 4000000 in
set_option maxRecDepth 1000000 in
theorem del_calls (B cap i j n : Nat) (cur : Array Value) (w : World) (hh : w.heap[B]? = some (.cells cur 93 (0, 0))) (hn : n ≤ cap) (hcap : cur.size = cap * 5) (hij : i < j) (hj : j ≤ n) (h1 : ∀ u ∈ cur.toList.take (n * 5), u.oneCell' = true) :
    Calls Tryz.prog 156 #[.slice (some ⟨B,0,none⟩) n cap,.int .i64 i,.int .i64 j] w fun e w'=>e=.returned (.slice (some ⟨B,0,none⟩) (i+(n-j)) cap)∧∃ cur',w'.heap[B]?=some (.cells cur' 93 (0,0))∧cur'.size=cur.size ∧
      cur'.toList.take ((i+(n-j))*5)=cur.toList.take (i*5) ++ (cur.toList.take (n*5)).drop (j*5)∧Chg w w' B:=by
  obtain ⟨news,hnews⟩:∃ news,news=(cur.toList.take (n*5)).drop (j*5):=⟨_,rfl⟩
  have hlen:news.length=(n-j)*5:=by rw [hnews]; simp; omega
  obtain ⟨A,hA,hsrc⟩:∃ A:Addr,(if cap=j then some (⟨B,0,none⟩:Addr) else some ⟨B,j*5,none⟩)=some A∧Hid (∀ t u,news[t]?=some u→w.drew.cell? (A.add t)=some u):=by
    by_cases h:cap=j
    · refine ⟨⟨B,0,none⟩,by simp [h],fun t u hu=>?_⟩
      have h0:news.length=0:=by rw [hlen]; omega
      rw [List.length_eq_zero_iff.1 h0] at hu
      simp at hu
    · refine ⟨⟨B,j*5,none⟩,by simp [h],fun t u hu=>?_⟩
      have ht:t < (n-j)*5:=by
        have:=(List.getElem?_eq_some_iff.1 hu).1
        rwa [hlen] at this
      rw [hnews,List.getElem?_drop,List.getElem?_take_of_lt (by omega),Array.getElem?_toList] at hu
      have:(⟨B,j*5,none⟩:Addr).add t=⟨B,j*5+t,none⟩:=by unfold Addr.add; split <;> simp_all
      rw [this]
      show w.cell? _=_
      simp [World.cell?,hh,hu]
  have s1:Hid (news.length=(n-j)*5):=hlen
  have s2:Hid (∀ u ∈ news,u.oneCell'=true):=fun u hu=>h1 u (List.mem_of_mem_drop (by rw [← hnews]; exact hu))
  obtain ⟨c1,hc1⟩:∃ c1,c1=(cur.toList.take (i*5) ++ news ++ cur.toList.drop (i*5+news.length)).toArray:=⟨_,rfl⟩
  obtain ⟨W1,hW1⟩:∃ W1,W1=w.drew.setRow B c1:=⟨_,rfl⟩
  have hb1:Hid (w.drew.heap[B]?=some (.cells cur 93 (0,0))):=hh
  have hs1:c1.size=cur.size:=by rw [hc1]; simp [hlen]; omega
  have hh1:W1.heap[B]?=some (.cells c1 93 (0,0)):=by rw [hW1]; exact setRow_heap w.drew B cur _ 93 _ hh
  have hX:Aside (W1=w.drew.setRow B c1):=hW1
  have hc1':Aside (c1=(cur.toList.take (i*5) ++ news ++ cur.toList.drop (i*5+news.length)).toArray):=hc1
  have hfit:Hid (i*5+news.length≤cur.size):=by show _≤_; rw [hlen]; omega
  obtain ⟨i0,hi0,hz0,hz1,hz2⟩:∃ i0,Tryz.prog.info? 93=some i0∧True∧i0.size=5∧True:=by
    have:(Tryz.prog.info? 93).map (·.size)=some 5:=by kernel_rfl
    cases h:Tryz.prog.info? 93 with
    | none=>rw [h] at this; cases this
    | some x=>rw [h] at this; exact ⟨x,rfl,trivial,by simpa using this,trivial⟩
  obtain ⟨cur',hcl⟩:∃ cur':Array Value,Hid (cur'.size=c1.size∧cur'.toList.take ((i+(n-j))*5)=c1.toList.take ((i+(n-j))*5))∧∀ ty,(Builtin.clear_ #[27] ty #[.slice (some ⟨B,(i+(n-j))*5,none⟩) (n-(i+(n-j))) (cap-(i+(n-j)))]).run Tryz.prog W1=.ok (.tuple #[]) (W1.setRow B cur'):=by
    obtain ⟨p,hp⟩:∃ p,n-(i+(n-j))=p+1:=⟨n-(i+(n-j))-1,by omega⟩
    have hz:∀ ty,(Builtin.clear_ #[27] ty #[.slice (some ⟨B,(i+(n-j))*5,none⟩) (p+1) (cap-(i+(n-j)))]).run Tryz.prog W1=.ok (.tuple #[]) (W1.setRow B (c1.toList.take ((i+(n-j))*5) ++ (List.replicate ((p+1)*5) (Value.int .i64 0)) ++ c1.toList.drop ((i+(n-j))*5+(p+1)*5)).toArray):=by
      intro ty
      have hst:=run_storeCells_at Tryz.prog B ((i+(n-j))*5) 93 (List.replicate ((p+1)*5) (Value.int .i64 0)) 0 c1 W1 hh1 (by simp; omega) (fun v hv=>by rw [List.eq_of_mem_replicate hv]; rfl)
      simp only [Nat.add_zero,List.length_replicate] at hst
      have ez:(Builtin.zeroCells #[Value.int .i64 0,.int .i64 0,.int .i64 0,.int .i64 0,.int .i64 0] (p+1)).toList=List.replicate ((p+1)*5) (Value.int .i64 0):=by
        rw [zeroCells_eq (by decide) (p+1)]
        have:(#[Value.int .i64 0,.int .i64 0,.int .i64 0,.int .i64 0,.int .i64 0]:Array Value).toList=List.replicate 5 (Value.int .i64 0):=rfl
        rw [this,List.flatten_replicate_replicate]
      have hv:(zeroValue 93).run Tryz.prog W1=.ok (.agg #[Value.int .i64 0,.int .i64 0,.int .i64 0,.int .i64 0,.int .i64 0]) W1:=Tryz.zeroValue93 W1
      simp only [Builtin.clear_,List.getElem?_toArray,List.getElem?_cons_zero,run_underlying Tryz.underlying27,Sem.run_bind,Result.andThen_ok,hv,Value.cells,ez,hst,Sem.run_pure]
    rw [hp]
    refine ⟨_,⟨?_,?_⟩,hz⟩
    · simp; omega
    · rw [List.toList_toArray,List.append_assoc,List.take_append_of_le_length (by simp; omega)]
      exact List.take_of_length_le (by simp; omega) |>.trans rfl
  obtain ⟨hcur,hcl⟩:=hcl
  have hic:i≤cap:=by omega
  have hjc:j≤cap:=by omega
  have hlt:i < n:=by omega
  have hnn:Hid (news=(cur.toList.take (n*5)).drop (j*5)):=hnews
  clear hW1 hh1 hc1 hh hnews hlen
  have mixed:Tryz.prog.follows .mixedOrders=true:=by kernel_rfl
  go_enter Tryz.func156,Tryz.ntmps156
  go_wp2_with fail
  go_region_law_o (refine step_append_row rfl (.tmp 22) (.tmp 25) 27 rfl 93 i0 5 Tryz.underlying27 hi0 hz1 B i cap (by simp [Act.eval,Act.put]) cur hb1.out A (n-j) (cap-j) news (by simp [Act.eval,Act.put,← hA]) s1.out hsrc.out s2.out (by omega) hfit.out ?_; rw [← hc1'.out,← hX.out])
  go_wp2
  go_ret
  refine ⟨rfl,cur',?_,?_,?_,?_⟩
  · rw [hX.out]
    exact setRow_heap _ B c1 cur' 93 _ (setRow_heap w.drew B cur c1 93 _ hb1.out)
  · rw [hcur.out.1,hs1]
  · rw [hcur.out.2,hc1'.out,hnn.out]
    have hl2:(cur.toList.take (i*5) ++ (cur.toList.take (n*5)).drop (j*5)).length=(i+(n-j))*5:=by
      simp; omega
    rw [List.toList_toArray,← hl2,List.take_left]
  · rw [hX.out]
    have k1:=Chg.setRow w.drew B c1
    have k2:=Chg.setRow (w.drew.setRow B c1) B cur'
    exact ⟨k2.os.trans k1.os,k2.tape.trans k1.tape,k2.output.trans k1.output,k2.size.trans k1.size,fun k hk=>(k2.other k hk).trans (k1.other k hk)⟩
def eatDel:TypeId→List AV→Tree Blk
 | e,[.view .ape xs,.int .i64 i,.int .i64 j]=>.asrt (e=93∧(0≤i∧i < xs.length)∧j=i+1) (.ret (.rows .ape e (xs.eraseIdx i.toNat)))
 | _,_=>.fail
theorem eatDel_valid:ValidEat Tryz.prog 156 eatDel:=by
 refine ⟨enters_of (by kernel_rfl),fun r e' xs' rest blk hout w S φ b next B cap us sv vals hb hlt hfits hrow hreps hone hvals hg=>?_⟩
 unfold eatDel at hout
 split at hout
 ·rename_i e xs i j hargs
  cases hargs
  obtain ⟨⟨rfl,⟨h0,h1⟩,rfl⟩,hout⟩:=hout
  cases hout
  cases B with
  | none =>
   exfalso
   rcases hrow.2 with ⟨_,h⟩ | ⟨_,_,_,h,_⟩
   ·have:(xs.length:Int)=0:=by exact_mod_cast h
    omega
   ·simp [baseOf] at h
  | some B =>
   have hfits':sv=.slice (some ⟨B,0,none⟩) xs.length cap:=hfits
   subst hfits'
   cases hvals with
   | int _ _ hv =>
    cases hv with
    | int _ _ hv =>
     cases hv.nil_inv
     have hrow0:=hrow
     obtain ⟨h40,hrow⟩:=hrow
     rcases hrow with ⟨h7,_⟩ | ⟨g',cap',cur,hv,_,hh,h8,h9,h10,h11⟩
     ·simp [baseOf] at h7
     simp [baseOf] at hv
     obtain ⟨rfl,rfl⟩:=hv
     obtain ⟨k,rfl⟩:∃ k:Nat,i=(k:Int):=⟨i.toNat,by omega⟩
     have hk:k < xs.length:=by omega
     have hc:=del_calls B cap k (k+1) xs.length cur w hh h8 h10 (by omega) (by omega) (by
      have:RTy.size .ape=5:=rfl
      rw [this] at h11
      rw [h11]; exact hone)
     refine (show Calls _ _ _ _ _ from hc).mono ?_
     rintro en w' ⟨rfl,cur',q1,q2,q3,q4⟩
     have hlen:(xs.eraseIdx (k:Int).toNat).length=k+(xs.length-(k+1)):=by
      rw [show (k:Int).toNat=k by omega,List.length_eraseIdx_of_lt hk]; omega
     have m:Moved w w' φ (some b) (some B):=⟨q4.os,q4.tape,q4.output,fun k _ hj _=>q4.other k (fun e=>hj (by rw [e])),fun _ hB=>by cases hB; exact ⟨by rw [q4.size]; exact hlt _ rfl,.inr ⟨b,_,_,rfl,hb⟩⟩⟩
     have e5:RTy.size .ape=5:=rfl
     rw [e5] at h11 h10 h40
     have eus:cur'.toList.take ((k+(xs.length-(k+1)))*5)=us.take (k*5) ++ us.drop ((k+1)*5):=by
      rw [q3,h11,← h11,List.take_take,Nat.min_eq_left (by omega),h11]
     have t1:=flatMap_takeDrop .ape xs 0 k
     have t2:=flatMap_takeDrop .ape xs (k+1) xs.length
     simp only [List.drop_zero,Nat.zero_mul,e5] at t1 t2
     rw [List.take_length,List.take_of_length_le (by rw [flatMap_len,e5]; omega)] at t2
     have er:(xs.eraseIdx (k:Int).toNat).flatMap (RTy.enc .ape)=(xs.flatMap (RTy.enc .ape)).take (k*5) ++ (xs.flatMap (RTy.enc .ape)).drop ((k+1)*5):=by
      rw [show (k:Int).toNat=k by omega,List.eraseIdx_eq_take_drop_succ,List.flatMap_append,t1,t2]
     refine ⟨_,some B,cap,k+(xs.length-(k+1)),rfl,m,rfl,hlen.symm,us.take (k*5) ++ us.drop ((k+1)*5),⟨?_,.inr ⟨B,cap,cur',rfl,Nat.zero_le _,q1,by omega,h9,by rw [q2]; exact h10,?_⟩⟩,?_,?_⟩
     ·have hs:cur'.toList.length=cap*5:=by have:=q2.trans h10; simpa using this
      rw [← eus,List.length_take,hs]
      show min _ _=_*5
      omega
     ·rw [e5,eus]
     ·rw [er]
      exact ((hreps.take _).app (hreps.drop _)).mono (m.mono hg)
     ·intro u hu
      rcases List.mem_append.1 hu with hu | hu
      ·exact hone u (List.mem_of_mem_take hu)
      ·exact hone u (List.mem_of_mem_drop hu)
 ·exact hout.elim
noncomputable def c122:Cfg:=(c121.addEat 156 eatDel).addCuts [27]
theorem c122_good:GoodCfg c122:=(c121_good.addEat eatDel_valid).addCuts _
end Go.Fx
namespace Go.Fx
open Go Go.Proofs
abbrev AIx:=List Int × Int
def TIx (x:AIx × Int):St:=⟨puts (J 19) [(0,.view (.int .i64) x.1.1),(1,.int .i64 x.1.2),(7,.int .i64 x.1.1.length),(8,.int .i64 x.2)],[],0⟩
def sIx:List Sh:=sets (Js 19) [(0,.keep),(1,.int),(7,.int),(8,.int)]
def eIx:List Sh:=sets (Js 19) [(4,.int)]
def RIx (x:AIx × Int):Ex × St:=(.ret,⟨puts (J 19) [(4,.int .i64 x.2)],[],0⟩)
def EIx (_:AIx):Ex × St:=(.exit 0,⟨J 19,[],0⟩)
theorem bIx (x : AIx) (i : Int) : roundN c122 60 152 (loopAt c122.P 152 2) (norm2 0 [] [] sIx) (norm2 0 [] [] eIx) (TIx (x, i)) =
    .ite (decide (i < x.1.length)) (.asrt (0≤i∧i < x.1.length) (.ite (x.2 == rd (.int .i64) x.1 i) (.ret (RIx (x,i))) (.ret (.normal,TIx (x,IntKind.i64.wrap (i+1)))))) (.ret (EIx x)):=by kernel_rfl
def gIx (σ:St):Option (AIx × Int) :=
 match nth σ.tmps 0,nth σ.tmps 1,nth σ.tmps 8 with
 | .view (.int .i64) l,.int .i64 v,.int .i64 i=>some ((l,v),i)
 | _,_,_=>none
def pIx (x:AIx) (i:Int):Bool:=x.2 == rd (.int .i64) x.1 i
def LIx:LoopCon:=searchF 0 (norm2 0 [] [] sIx) TIx gIx (fun x=>x.1.length) (fun _=>True) pIx RIx EIx
theorem lIx (hs:SubOf c122.P 152 (.loop (loopAt c122.P 152 2))):SoundLoop c122 (loopAt c122.P 152 2) LIx :=
 search_loop (C:=c122) (g:=152) (l:=2) c122_good 60 0 _ _ (Weak.norm2 0 [] [] sIx) (Weak.norm2 0 [] [] eIx) hs TIx gIx (fun x=>x.1.length) (fun _=>True) pIx RIx EIx (fun _=>by intro h; cases h) (fun _=>by intro h; cases h)
  (fun x i h0 hi hl _=>.of_eq (bIx x i) (by
   rw [wrap_fits (n:=i+1) (by omega) (by omega)]
   refine (Tree.out_ite_true (decide_eq_true hi)).2 ⟨⟨h0,hi⟩,?_⟩
   unfold pIx
   cases h:(x.2 == rd (.int .i64) x.1 i) with
   | true=>exact (Tree.out_ite_true rfl).2 rfl
   | false=>exact (Tree.out_ite_false rfl).2 rfl))
  (fun x i hi=>.of_eq (bIx x i) ((Tree.out_ite_false (decide_eq_false (by omega))).2 rfl))
noncomputable def c123:Cfg:=c122.addLoop 152 2 LIx
theorem c123_good:GoodCfg c123:=c122_good.addLoop (by unfold OneLoop; kernel_rfl) lIx
def hasI (l:List Int) (v:Int):Bool:=l.any fun x=>x == v
def coT (l:List Int) (v:Int):Tree (AV × List Blk):=.asrt (0=0∧TIx ((l,v),0)=TIx ((l,v),0)) (.asrt ((0≤(0:Int)∧(l.length:Int) < 17592186044416)∧True) (.ite (firstP (pIx (l,v)) ((l.length:Int)-0).toNat 0).isSome (.ret (.bool (decide ((firstP (pIx (l,v)) ((l.length:Int)-0).toNat 0).getD 0≥0)),[])) (.ret (.blit false,[]))))
theorem fHasI (l:List Int) (v:Int):callC c123 60 86 [.view (.int .i64) l,.int .i64 v]=coT l v:=by kernel_rfl
theorem rdI_mem {l:List Int} {i:Int} (h0:0≤i) (h1:i < l.length):rd (.int .i64) l i ∈ l:=by
 have hlt:i.toNat < l.length:=by omega
 have:rd (.int .i64) l i=l[i.toNat]:=by simp [rd,hlt]
 rw [this]
 exact List.getElem_mem _
theorem memI_rd {l:List Int} {x:Int} (h:x ∈ l):∃ i:Int,0≤i∧i < l.length∧rd (.int .i64) l i=x:=by
 obtain ⟨n,hn,e⟩:=List.getElem_of_mem h
 exact ⟨n,by omega,by omega,by simp [rd,hn,e]⟩
def conHasI:Con:=flatCon (d2 (dView (.int .i64)) dInt) (fun x=>(x.1.length:Int) < 17592186044416) fun x=>.bool (hasI x.1 x.2)
theorem conHasI_valid:ValidCon c123.P 86 conHasI:=flatCon_valid c123_good 60 (by kernel_rfl) fun x h=>⟨_,fHasI x.1 x.2,by
 refine .asrt ⟨rfl,rfl⟩ (.asrt ⟨⟨Int.le_refl _,h⟩,trivial⟩ ?_)
 unfold hasI
 cases hf:firstP (pIx (x.1,x.2)) ((x.1.length:Int)-0).toNat 0 with
 | none =>
  refine .itee rfl (.ret (.blit ?_) rfl)
  have h1:=firstP_none hf
  symm
  rw [List.any_eq_false]
  intro y hy
  obtain ⟨i,h2,h3,h4⟩:=memI_rd hy
  have:=h1 i h2 (by omega)
  unfold pIx at this
  simp only [h4] at this
  simpa using fun e=>by rw [e] at this; simp at this
 | some j =>
  refine .itet rfl (retB ?_)
  obtain ⟨⟨h1,h2⟩,h3,_⟩:=firstP_some hf
  simp only [Option.getD_some]
  rw [decide_eq_true (by omega)]
  symm
  rw [List.any_eq_true]
  refine ⟨_,rdI_mem (l:=x.1) (i:=j) h1 (by omega),?_⟩
  unfold pIx at h3
  simp only [beq_iff_eq] at h3 ⊢
  exact h3.symm⟩
noncomputable def c124:Cfg:=c123.addQuiet 86 conHasI
theorem c124_good:GoodCfg c124:=c123_good.addQuiet conHasI_valid flatCon_quiet
abbrev AAt:=List Fu.Ape × Int
def TAt (x:AAt × Int):St:=⟨puts (J 19) [(0,.view .ape x.1.1),(1,.fn (.func 187) [] [.ptr 0 0]),(7,.int .i64 x.1.1.length),(8,.int .i64 x.2)],[(0,.cells [.int .i64 x.1.2])],1⟩
def sAt:List Sh:=sets (Js 19) [(0,.keep),(1,.keep),(7,.int),(8,.int)]
def RAt (x:AAt × Int):Ex × St:=(.ret,⟨puts (J 19) [(4,.int .i64 x.2)],[(0,.cells [.int .i64 x.1.2])],1⟩)
def EAt (x:AAt):Ex × St:=(.exit 0,⟨J 19,[(0,.cells [.int .i64 x.2])],1⟩)
def eAt:List Sh:=sets (Js 19) [(4,.int)]
theorem bAt (x : AAt) (i : Int) : roundN c124 60 124 (loopAt c124.P 124 2) (norm2 1 [] [0] sAt) (norm2 1 [] [0] eAt) (TAt (x, i)) =
    .ite (decide (i < x.1.length)) (.asrt (0≤i∧i < x.1.length) (.ite ((rd .ape x.1 i).ID == x.2) (.ret (RAt (x,i))) (.ret (.normal,TAt (x,IntKind.i64.wrap (i+1)))))) (.ret (EAt x)):=by kernel_rfl
def gAt (σ:St):Option (AAt × Int) :=
 match nth σ.tmps 0,nth σ.tmps 8,σ.heap with
 | .view .ape l,.int .i64 i,[(_,.cells [.int .i64 v])]=>some ((l,v),i)
 | _,_,_=>none
def pAt (x:AAt) (i:Int):Bool:=(rd .ape x.1 i).ID == x.2
def LAt:LoopCon:=searchF 1 (norm2 1 [] [0] sAt) TAt gAt (fun x=>x.1.length) (fun _=>True) pAt RAt EAt
theorem lAt (hs:SubOf c124.P 124 (.loop (loopAt c124.P 124 2))):SoundLoop c124 (loopAt c124.P 124 2) LAt :=
 search_loop (C:=c124) (g:=124) (l:=2) c124_good 60 1 _ _ (Weak.norm2 1 [] [0] sAt) (Weak.norm2 1 [] [0] eAt) hs TAt gAt (fun x=>x.1.length) (fun _=>True) pAt RAt EAt (fun _=>by intro h; cases h) (fun _=>by intro h; cases h)
  (fun x i h0 hi hl _=>.of_eq (bAt x i) (by
   rw [wrap_fits (n:=i+1) (by omega) (by omega)]
   refine (Tree.out_ite_true (decide_eq_true hi)).2 ⟨⟨h0,hi⟩,?_⟩
   unfold pAt
   cases h:((rd .ape x.1 i).ID == x.2) with
   | true=>exact (Tree.out_ite_true rfl).2 rfl
   | false=>exact (Tree.out_ite_false rfl).2 rfl))
  (fun x i hi=>.of_eq (bAt x i) ((Tree.out_ite_false (decide_eq_false (by omega))).2 rfl))
def LAp:LoopCon:=orL (fnIs 1 187) LAt LPx
theorem lAp (hs:SubOf c124.P 124 (.loop (loopAt c124.P 124 2))):SoundLoop c124 (loopAt c124.P 124 2) LAp :=
 orL_sound (lAt hs) (c124_good.loops 124 2 LPx (by kernel_rfl) _ hs (by kernel_rfl))
noncomputable def c125:Cfg:=c124.addLoop 124 2 LAp
theorem c125_good:GoodCfg c125:=c124_good.addLoop (by unfold OneLoop; kernel_rfl) lAp
def atA (A:List Fu.Ape) (id:Int):Int:=(firstP (pAt (A,id)) A.length 0).getD (-1)
def atT (A:List Fu.Ape) (id:Int):Tree (AV × List Blk):=.asrt (1=1∧TAt ((A,id),0)=TAt ((A,id),0)) (.asrt ((0≤(0:Int)∧(A.length:Int) < 17592186044416)∧True) (.ite (firstP (pAt (A,id)) ((A.length:Int)-0).toNat 0).isSome (.ret (.int .i64 ((firstP (pAt (A,id)) ((A.length:Int)-0).toNat 0).getD 0),[])) (.ret (.lit .i64 (-1),[]))))
theorem fAtA (A:List Fu.Ape) (id:Int):callC c125 60 154 [.view .ape A,.int .i64 id]=atT A id:=by kernel_rfl
def conAtA:Con:=flatCon (d2 (dView .ape) dInt) (fun x=>(x.1.length:Int) < 17592186044416) fun x=>.int .i64 (atA x.1 x.2)
theorem conAtA_valid:ValidCon c125.P 154 conAtA:=flatCon_valid c125_good 60 (by kernel_rfl) fun x h=>⟨_,fAtA x.1 x.2,by
 refine .asrt ⟨rfl,rfl⟩ (.asrt ⟨⟨Int.le_refl _,h⟩,trivial⟩ ?_)
 unfold atA
 rw [show ((x.1.length:Int)-0).toNat=x.1.length by omega]
 cases hf:firstP (pAt (x.1,x.2)) x.1.length 0 with
 | none=>exact .itee rfl (.ret (.lit rfl) rfl)
 | some j=>exact .itet rfl (.ret (.eq rfl) rfl)⟩
noncomputable def c126:Cfg:=c125.addQuiet 154 conAtA
theorem c126_good:GoodCfg c126:=c125_good.addQuiet conAtA_valid flatCon_quiet
abbrev AOf:=Fu.World × Int × Int
def hOf (x:AOf):Heap:=[(0,.cells (encW x.1)),(1,.cells [.int .i64 x.2.1,.int .i64 x.2.2])]
def TOf (x:AOf × Int):St:=⟨puts (J 19) [(0,.view .task x.1.1.T),(1,.fn (.func 153) [] [.ptr 1 0]),(7,.int .i64 x.1.1.T.length),(8,.int .i64 x.2)],hOf x.1,2⟩
def sOf:List Sh:=sets (Js 19) [(0,.keep),(1,.keep),(7,.int),(8,.int)]
def ROf (x:AOf × Int):Ex × St:=(.ret,⟨puts (J 19) [(4,.int .i64 x.2)],hOf x.1,2⟩)
def EOf (x:AOf):Ex × St:=(.exit 0,⟨J 19,hOf x,2⟩)
def eOf:List Sh:=sets (Js 19) [(4,.int)]
theorem bOf (x : AOf) (i : Int) : roundN c126 60 123 (loopAt c126.P 123 2) (norm2 2 [] [0, 1] sOf) (norm2 2 [] [0, 1] eOf) (TOf (x, i)) =
    .ite (decide (i < x.1.T.length)) (.asrt (0≤i∧i < x.1.T.length) (.ite ((rd .task x.1.T i).ID == x.2.2) (.ret (ROf (x,i))) (.ret (.normal,TOf (x,IntKind.i64.wrap (i+1)))))) (.ret (EOf x)):=by kernel_rfl
def gOf (σ:St):Option (AOf × Int) :=
 match nth σ.tmps 8,σ.heap with
 | .int .i64 i,[(_,.cells [.int .i64 a,.view .task t,.view .ape q,.int .i64 c]),(_,.cells [.int .i64 b,.int .i64 d])]=>some ((⟨a,t,q,c⟩,b,d),i)
 | _,_=>none
def pOf (x:AOf) (i:Int):Bool:=(rd .task x.1.T i).ID == x.2.2
def LOf:LoopCon:=searchF 2 (norm2 2 [] [0,1] sOf) TOf gOf (fun x=>x.1.T.length) (fun _=>True) pOf ROf EOf
theorem lOf (hs:SubOf c126.P 123 (.loop (loopAt c126.P 123 2))):SoundLoop c126 (loopAt c126.P 123 2) LOf :=
 search_loop (C:=c126) (g:=123) (l:=2) c126_good 60 2 _ _ (Weak.norm2 2 [] [0,1] sOf) (Weak.norm2 2 [] [0,1] eOf) hs TOf gOf (fun x=>x.1.T.length) (fun _=>True) pOf ROf EOf (fun _=>by intro h; cases h) (fun _=>by intro h; cases h)
  (fun x i h0 hi hl _=>.of_eq (bOf x i) (by
   rw [wrap_fits (n:=i+1) (by omega) (by omega)]
   refine (Tree.out_ite_true (decide_eq_true hi)).2 ⟨⟨h0,hi⟩,?_⟩
   unfold pOf
   cases h:((rd .task x.1.T i).ID == x.2.2) with
   | true=>exact (Tree.out_ite_true rfl).2 rfl
   | false=>exact (Tree.out_ite_false rfl).2 rfl))
  (fun x i hi=>.of_eq (bOf x i) ((Tree.out_ite_false (decide_eq_false (by omega))).2 rfl))
noncomputable def c127:Cfg:=c126.addLoop 123 2 LOf
theorem c127_good:GoodCfg c127:=c126_good.addLoop (by unfold OneLoop; kernel_rfl) lOf
def treeCon {α:Type} (D:Ds α) (tr:α→Tree (AV × List Blk)):Con:=fun args=>match D.dec args with | some a=>tr a | none=>.fail
theorem treeCon_valid {C:Cfg} (G:GoodCfg C) {g:Nat} (n:Nat) {α:Type} {D:Ds α} {tr:α→Tree (AV × List Blk)} (he:entersB C.P g=true) (h:∀ a r,(tr a).Out r→∃ t,callC C n g (D.enc a)=t∧Rez t r):ValidCon C.P g (treeCon D tr):=by
 refine con_of (n:=n) G he fun args r hr=>?_
 unfold treeCon at hr
 split at hr
 ·rename_i a ha
  obtain ⟨t,h3,v,h4,h5⟩:=h a r hr
  exact ⟨_,v,D.ok _ _ ha,h4,.of_eq h3 h5⟩
 ·exact hr.elim
def decPair:AV→Option (Int × Int)
 | .agg [a,b]=>match a.i,b.i with
  | some a,some b=>some (a,b)
  | _,_=>none
 | _=>none
def encPair (p:Int × Int):AV:=.agg [.int .i64 p.1,.int .i64 p.2]
def dPair:Dc (Int × Int):=⟨decPair,encPair,fun v w h=>by
 unfold decPair at h
 split at h
 ·split at h
  ·rename_i h1 h2; cases h; exact .agg (.cons (.i h1) (.cons (.i h2) .nil))
  ·cases h
 ·cases h⟩
theorem AsArg.iface {t:TypeId} {a b:AV} (h:AsArg a b):AsArg (.iface t a) (.iface t b):=⟨fun hr=>by
 cases hr with
 | iface _ h1 _=>exact .iface _ (h.reps h1) .nil⟩
def idxT (T:List Fu.Task) (id:Int):Int:=(firstP (fun i=>(rd .task T i).ID == id) T.length 0).getD (-1)
def ofR (w:Fu.World) (c:Int × Int):Tree (AV × List Blk):=.asrt (smallW w) (.ite (c.1 == 1 || c.1 == 3) (.ret (.iface 224 (.int .i64 (idxT w.T c.2)),[])) (.ite (c.1 == 2) (.ret (.iface 168 (.int .i64 (atA w.A c.2)),[])) (.ret (.niliface,[]))))
def ofT (w:Fu.World) (c:Int × Int):Tree (AV × List Blk) :=
 .ite (c.1 == 1 || c.1 == 3) (.asrt (2=2∧TOf ((w,c),0)=TOf ((w,c),0)) (.asrt ((0≤(0:Int)∧(w.T.length:Int) < 17592186044416)∧True) (.ite (firstP (pOf (w,c)) ((w.T.length:Int)-0).toNat 0).isSome (.ret (.iface 224 (.int .i64 ((firstP (pOf (w,c)) ((w.T.length:Int)-0).toNat 0).getD 0)),[])) (.ret (.iface 224 (.lit .i64 (-1)),[])))))
  (.ite (c.1 == 2) (.asrt ((w.A.length:Int) < 17592186044416) (.ret (.iface 168 (.int .i64 (atA w.A c.2)),[]))) (.ret (.niliface,[])))
theorem fOfR (w:Fu.World) (c:Int × Int):callC c127 60 87 [.agg (encW w),encPair c]=ofT w c:=by kernel_rfl
def conOfR:Con:=treeCon (d2 dWorld dPair) fun x=>ofR x.1 x.2
theorem conOfR_valid:ValidCon c127.P 87 conOfR:=treeCon_valid c127_good 60 (by kernel_rfl) fun x r h=>⟨_,fOfR x.1 x.2,by
 obtain ⟨⟨h1,h2⟩,h⟩:=h
 unfold ofT
 by_cases hb:(x.2.1 == 1 || x.2.1 == 3)=true
 ·replace h:=(Tree.out_ite_true hb).1 h
  cases h
  refine .itet hb (.asrt ⟨rfl,rfl⟩ (.asrt ⟨⟨Int.le_refl _,by omega⟩,trivial⟩ ?_))
  have e:idxT x.1.T x.2.2=(firstP (pOf (x.1,x.2)) ((x.1.T.length:Int)-0).toNat 0).getD (-1):=by
   rw [show ((x.1.T.length:Int)-0).toNat=x.1.T.length by omega]; rfl
  rw [e]
  cases hf:firstP (pOf (x.1,x.2)) ((x.1.T.length:Int)-0).toNat 0 with
  | none=>exact .itee rfl (.ret (.iface (.lit rfl)) rfl)
  | some j=>exact .itet rfl (.ret (.refl _) rfl)
 ·have hb:(x.2.1 == 1 || x.2.1 == 3)=false:=by simpa using hb
  replace h:=(Tree.out_ite_false hb).1 h
  refine .itee hb ?_
  by_cases hc:(x.2.1 == 2)=true
  ·replace h:=(Tree.out_ite_true hc).1 h
   cases h
   exact .itet hc (.asrt (by omega) (.ret (.refl _) rfl))
  ·have hc:(x.2.1 == 2)=false:=by simpa using hc
   replace h:=(Tree.out_ite_false hc).1 h
   cases h
   exact .itee hc (.ret (.refl _) rfl)⟩
noncomputable def c128:Cfg:=c127.addCon 87 conOfR
theorem c128_good:GoodCfg c128:=c127_good.addCon conOfR_valid (by kernel_rfl)
end Go.Fx
namespace Go.Fx
open Go Go.Proofs
def goneF (g:List Int):AV:=.fn (.func 85) [] [.pv [.view (.int .i64) g]]
abbrev AGo:=List Fu.Ape × List Int
def TGo (x:AGo × Int):St:=⟨puts (J 19) [(0,.view .ape x.1.1),(1,goneF x.1.2),(7,.int .i64 x.1.1.length),(8,.int .i64 x.2)],[],0⟩
def sGo:List Sh:=sets (Js 19) [(0,.keep),(1,.keep),(7,.int),(8,.int)]
def eGo:List Sh:=sets (Js 19) [(4,.int)]
def RGo (x:AGo × Int):Ex × St:=(.ret,⟨puts (J 19) [(4,.int .i64 x.2)],[],0⟩)
def EGo (_:AGo):Ex × St:=(.exit 0,⟨J 19,[],0⟩)
theorem bGo (x : AGo) (i : Int) : roundN c128 60 124 (loopAt c128.P 124 2) (norm2 0 [] [] sGo) (norm2 0 [] [] eGo) (TGo (x, i)) =
    .ite (decide (i < x.1.length)) (.asrt (0≤i∧i < x.1.length) (.asrt ((x.2.length:Int) < 17592186044416) (.ite (hasI x.2 (rd .ape x.1 i).ID) (.ret (RGo (x,i))) (.ret (.normal,TGo (x,IntKind.i64.wrap (i+1))))))) (.ret (EGo x)):=by kernel_rfl
def gGo (σ:St):Option (AGo × Int) :=
 match nth σ.tmps 0,nth σ.tmps 1,nth σ.tmps 8 with
 | .view .ape A,.fn _ _ [.pv [.view (.int .i64) g]],.int .i64 i=>some ((A,g),i)
 | _,_,_=>none
def pGo (x:AGo) (i:Int):Bool:=hasI x.2 (rd .ape x.1 i).ID
def okGo (x:AGo):Prop:=(x.2.length:Int) < 17592186044416
def LGo:LoopCon:=searchF 0 (norm2 0 [] [] sGo) TGo gGo (fun x=>x.1.length) okGo pGo RGo EGo
theorem lGo (hs:SubOf c128.P 124 (.loop (loopAt c128.P 124 2))):SoundLoop c128 (loopAt c128.P 124 2) LGo :=
 search_loop (C:=c128) (g:=124) (l:=2) c128_good 60 0 _ _ (Weak.norm2 0 [] [] sGo) (Weak.norm2 0 [] [] eGo) hs TGo gGo (fun x=>x.1.length) okGo pGo RGo EGo (fun _=>by intro h; cases h) (fun _=>by intro h; cases h)
  (fun x i h0 hi hl ho=>.of_eq (bGo x i) (by
   rw [wrap_fits (n:=i+1) (by omega) (by omega)]
   refine (Tree.out_ite_true (decide_eq_true hi)).2 ⟨⟨h0,hi⟩,ho,?_⟩
   unfold pGo
   cases h:hasI x.2 (rd .ape x.1 i).ID with
   | true=>exact (Tree.out_ite_true rfl).2 rfl
   | false=>exact (Tree.out_ite_false rfl).2 rfl))
  (fun x i hi=>.of_eq (bGo x i) ((Tree.out_ite_false (decide_eq_false (by omega))).2 rfl))
def LGp:LoopCon:=orL (fnIs 1 85) LGo LAp
theorem lGp (hs:SubOf c128.P 124 (.loop (loopAt c128.P 124 2))):SoundLoop c128 (loopAt c128.P 124 2) LGp :=
 orL_sound (lGo hs) (c128_good.loops 124 2 LAp (by kernel_rfl) _ hs (by kernel_rfl))
noncomputable def c129:Cfg:=c128.addLoop 124 2 LGp
theorem c129_good:GoodCfg c129:=c128_good.addLoop (by unfold OneLoop; kernel_rfl) lGp
def goneAt (A:List Fu.Ape) (g:List Int):Int:=(firstP (pGo (A,g)) A.length 0).getD (-1)
def decGone:AV→Option (List Int)
 | .fn (.func k) [] [.pv [v]]=>if k=85 then castView (.int .i64) v else none
 | _=>none
theorem AsArg.pvOne {a b:AV} (h:AsArg a b):AsArg (.pv [a]) (.pv [b]):=⟨fun hr=>by
 cases hr with
 | pv hs hc hr _ =>
  obtain ⟨v,rfl,h1⟩:=hr.one_inv
  exact .pv hs hc (h.reps h1) .nil⟩
theorem AsArg.fn1 {f:Fn} {a b:AV} (h:AsArg a b):AsArg (.fn f [] [a]) (.fn f [] [b]):=⟨fun hr=>by
 cases hr with
 | fn _ h1 h2 _ =>
  obtain ⟨v,rfl,h3⟩:=h2.one_inv
  exact .fn _ h1 (h.reps h3) .nil⟩
theorem AsArg.castView {r:RTy} {a:AV} {xs:List r.carrier} (h:castView r a=some xs):AsArg a (.view r xs):=.view (by
 unfold AV.asView
 split
 ·rename_i n cs; cases h
 ·exact h)
def dGone:Dc (List Int):=⟨decGone,goneF,fun v a h=>by
 unfold decGone at h
 split at h
 ·split at h
  ·rename_i hk; subst hk; exact .fn1 (.pvOne (AsArg.castView h))
  ·cases h
 ·cases h⟩
def goT (A:List Fu.Ape) (g:List Int):Tree (AV × List Blk):=.asrt (0=0∧TGo ((A,g),0)=TGo ((A,g),0)) (.asrt ((0≤(0:Int)∧(A.length:Int) < 17592186044416)∧okGo (A,g)) (.ite (firstP (pGo (A,g)) ((A.length:Int)-0).toNat 0).isSome (.ret (.int .i64 ((firstP (pGo (A,g)) ((A.length:Int)-0).toNat 0).getD 0),[])) (.ret (.lit .i64 (-1),[]))))
theorem fGo (A:List Fu.Ape) (g:List Int):callC c129 60 124 [.view .ape A,goneF g]=goT A g:=by kernel_rfl
def conGo:Con:=flatCon (d2 (dView .ape) dGone) (fun x=>(x.1.length:Int) < 17592186044416∧okGo x) fun x=>.int .i64 (goneAt x.1 x.2)
theorem conGo_valid:ValidCon c129.P 124 conGo:=flatCon_valid c129_good 60 (by kernel_rfl) fun x h=>⟨_,fGo x.1 x.2,by
 refine .asrt ⟨rfl,rfl⟩ (.asrt ⟨⟨Int.le_refl _,h.1⟩,h.2⟩ ?_)
 unfold goneAt
 rw [show ((x.1.length:Int)-0).toNat=x.1.length by omega]
 cases hf:firstP (pGo (x.1,x.2)) x.1.length 0 with
 | none=>exact .itee rfl (.ret (.lit rfl) rfl)
 | some j=>exact .itet rfl (.ret (.eq rfl) rfl)⟩
noncomputable def c130:Cfg:=c129.addQuiet 124 conGo
theorem c130_good:GoodCfg c130:=c129_good.addQuiet conGo_valid flatCon_quiet
abbrev XDl:=List Fu.Ape × List Int × TypeId
def TTd (x:(XDl × Int) × Int):St:=⟨puts (J 42) [(0,.own 0),(1,goneF x.1.1.2.1),(5,.int .i64 x.1.2),(6,.int .i64 x.2)],[(0,.rows .ape x.1.1.2.2 x.1.1.1)],1⟩
def sTd:List Sh:=sets (Js 42) [(0,.keep),(1,.keep),(5,.int),(6,.int)]
def eTd:List Sh:=sets (Js 42) [(0,.keep),(5,.int)]
def ETd (x:XDl × Int):Ex × St:=(.exit 0,⟨puts (J 42) [(0,.own 0),(5,.int .i64 x.2)],[(0,.rows .ape x.1.2.2 x.1.1)],1⟩)
def setA (x:XDl) (A:List Fu.Ape):XDl:=(A,x.2)
def nxtTd (x:XDl × Int) (j:Int):XDl × Int:=bif !hasI x.1.2.1 (rd .ape x.1.1 j).ID then (setA x.1 (upd .ape x.1.1 x.2 (rd .ape x.1.1 j)),IntKind.i64.wrap (x.2+1)) else x
theorem bTd (x : XDl) (i j : Int) : roundN c130 60 84 (loopAt c130.P 84 5) (norm2 1 [] [0] sTd) (norm2 1 [] [0] eTd) (TTd ((x, i), j)) =
    .ite (decide (j < x.1.length)) (.asrt (0≤j∧j < x.1.length) (.asrt (0≤j∧j < x.1.length) (.asrt ((x.2.1.length:Int) < 17592186044416) (.ite (!hasI x.2.1 (rd .ape x.1 j).ID)
      (.asrt (0≤i∧i < x.1.length) (.asrt (0≤i∧i < x.1.length) (.ret (.normal,TTd ((setA x (upd .ape x.1 i (rd .ape x.1 j)),IntKind.i64.wrap (i+1)),IntKind.i64.wrap (j+1))))))
      (.ret (.normal,TTd ((x,i),IntKind.i64.wrap (j+1)))))))) (.ret (ETd (x,i))):=by kernel_rfl
def gTd (σ:St):Option ((XDl × Int) × Int) :=
 match nth σ.tmps 1,nth σ.tmps 5,nth σ.tmps 6,σ.heap with
 | .fn _ _ [.pv [.view (.int .i64) g]],.int .i64 i,.int .i64 j,[(_,.rows .ape e A)]=>some (((A,g,e),i),j)
 | _,_,_,_=>none
def okTd (x:XDl × Int) (_:Int):Prop:=(0≤x.2∧x.2 < x.1.1.length)∧(x.1.2.1.length:Int) < 17592186044416
def LTd0:LoopCon:=boundF 1 (norm2 1 [] [0] sTd) TTd gTd (fun x=>x.1.1.length) okTd nxtTd ETd
theorem lTd0 (hs:SubOf c130.P 84 (.loop (loopAt c130.P 84 5))):SoundLoop c130 (loopAt c130.P 84 5) LTd0 :=
 bound_fold (C:=c130) (g:=84) (l:=5) c130_good 60 1 _ _ (Weak.norm2 1 [] [0] sTd) (Weak.norm2 1 [] [0] eTd) hs TTd gTd (fun x=>x.1.1.length) okTd nxtTd ETd
  (fun _=>by intro h; cases h) (fun x j=>by
   unfold nxtTd
   cases (!hasI x.1.2.1 (rd .ape x.1.1 j).ID) with
   | true=>simp [setA,upd]
   | false=>rfl)
  (fun x j h0 hj hm hok=>.of_eq (bTd x.1 x.2 j) (by
   unfold maxI64 at hm
   rw [wrap_fits (n:=j+1) (by omega) (by omega)]
   refine (Tree.out_ite_true (decide_eq_true hj)).2 ⟨⟨h0,hj⟩,⟨h0,hj⟩,hok.2,?_⟩
   unfold nxtTd
   cases h:(!hasI x.1.2.1 (rd .ape x.1.1 j).ID) with
   | true=>exact (Tree.out_ite_true rfl).2 ⟨hok.1,hok.1,rfl⟩
   | false=>exact (Tree.out_ite_false rfl).2 rfl))
  (fun x j hj=>.of_eq (bTd x.1 x.2 j) ((Tree.out_ite_false (decide_eq_false (by omega))).2 rfl))
def nxtDl (g:List Int) (p:List Fu.Ape × Int) (j:Int):List Fu.Ape × Int:=bif !hasI g (rd .ape p.1 j).ID then (upd .ape p.1 p.2 (rd .ape p.1 j),p.2+1) else p
def delN (g:List Int) (p:List Fu.Ape × Int) (j:Int):List Fu.Ape × Int:=foldI (nxtDl g) ((p.1.length:Int)-j).toNat p j
def LTd:LoopCon:=entry 1 (norm2 1 [] [0] sTd) TTd gTd fun p=>.asrt ((0≤p.1.2∧p.1.2 < p.2∧p.2≤p.1.1.1.length)∧(p.1.1.1.length:Int) < 17592186044416∧(p.1.1.2.1.length:Int) < 17592186044416)
 (.ret (ETd (setA p.1.1 (delN p.1.1.2.1 (p.1.1.1,p.1.2) p.2).1,(delN p.1.1.2.1 (p.1.1.1,p.1.2) p.2).2)))
theorem foldTd (k : Nat) : ∀ (x : XDl) (i j : Int), 0 ≤ i → i < j → j + k ≤ x.1.length → (x.1.length : Int) < 17592186044416 → (x.2.1.length : Int) < 17592186044416 →
    foldI nxtTd k (x,i) j=(setA x (foldI (nxtDl x.2.1) k (x.1,i) j).1,(foldI (nxtDl x.2.1) k (x.1,i) j).2)∧okI nxtTd (fun _ _=>(none:Option Unit)) okTd k (x,i) j:=by
  induction k with
  | zero=>intro x i j _ _ _ _ _; exact ⟨rfl,trivial⟩
  | succ k ih =>
    intro x i j h0 h1 h2 h3 h4
    have hok:okTd (x,i) j:=⟨⟨h0,by show i < (x.1.length:Int); omega⟩,h4⟩
    unfold foldI
    cases hb:(!hasI x.2.1 (rd .ape x.1 j).ID) with
    | true =>
      have e1:nxtTd (x,i) j=(setA x (upd .ape x.1 i (rd .ape x.1 j)),i+1):=by
        unfold nxtTd
        simp only [hb,cond_true]
        rw [wrap_fits (n:=i+1) (by omega) (by omega)]
      have e2:nxtDl x.2.1 (x.1,i) j=(upd .ape x.1 i (rd .ape x.1 j),i+1):=by
        unfold nxtDl
        simp only [hb,cond_true]
      have hl:(upd .ape x.1 i (rd .ape x.1 j)).length=x.1.length:=by simp [upd]
      obtain ⟨k1,k2⟩:=ih (setA x (upd .ape x.1 i (rd .ape x.1 j))) (i+1) (j+1) (by omega) (by omega) (by show j+1+(k:Int)≤((upd .ape x.1 i (rd .ape x.1 j)).length:Int); rw [hl]; omega) (by show ((upd .ape x.1 i (rd .ape x.1 j)).length:Int) < _; rw [hl]; exact h3) h4
      rw [e1,e2]
      exact ⟨k1,hok,fun _=>by rw [e1]; exact k2⟩
    | false =>
      have e1:nxtTd (x,i) j=(x,i):=by unfold nxtTd; simp only [hb,cond_false]
      have e2:nxtDl x.2.1 (x.1,i) j=(x.1,i):=by unfold nxtDl; simp only [hb,cond_false]
      obtain ⟨k1,k2⟩:=ih x i (j+1) h0 (by omega) (by omega) h3 h4
      rw [e1,e2]
      exact ⟨k1,hok,fun _=>by rw [e1]; exact k2⟩
theorem lTd (hs:SubOf c130.P 84 (.loop (loopAt c130.P 84 5))):SoundLoop c130 (loopAt c130.P 84 5) LTd:=by
 intro w0 S φ σ a w Q R hx
 refine lTd0 hs w0 S φ σ a w Q R ?_
 obtain ⟨r,hr,hq⟩:=Tree.wp_out.1 hx
 refine Tree.wp_of_out ?_ hq
 unfold LTd entry at hr
 unfold LTd0 boundF entry
 split at hr
 ·rename_i p hp
  obtain ⟨h1,⟨⟨h2,h3,h4⟩,h5,h6⟩,h7⟩:=hr
  obtain ⟨⟨x,i⟩,j⟩:=p
  simp only at h2 h3 h4 h5 h6
  obtain ⟨k1,k2⟩:=foldTd ((x.1.length:Int)-j).toNat x i j h2 h3 (by omega) h5 h6
  simp only [hp]
  refine ⟨h1,⟨by omega,by unfold maxI64; omega,k2⟩,?_⟩
  rw [← h7]
  show ETd (foldI nxtTd ((x.1.length:Int)-j).toNat (x,i) j)=_
  rw [k1]
  rfl
 ·exact hr.elim
noncomputable def c131:Cfg:=c130.addLoop 84 5 LTd
theorem c131_good:GoodCfg c131:=c130_good.addLoop (by unfold OneLoop; kernel_rfl) lTd
def zeroApe:Fu.Ape:=⟨0,0,0,0,0⟩
def delZ (D:List Fu.Ape) (n:Int):List Fu.Ape:=D.take (D.length-(D.length-n.toNat)) ++ List.replicate (D.length-n.toNat) zeroApe
def delE (D:List Fu.Ape) (n:Int) (e:TypeId):Tree (AV × Heap × Nat):=.asrt (0≤n∧n≤D.length∧0 < D.length) (.asrt (n.toNat*RTy.ape.size=(D.length-(D.length-n.toNat))*RTy.ape.size∧D.length-n.toNat≤D.length)
 (.asrt (0≤n∧n≤(delZ D n).length∧0 < (delZ D n).length) (.ret (.own 1,[(1,.rows .ape e ((delZ D n).take n.toNat))],2))))
def delT (A:List Fu.Ape) (g:List Int) (e:TypeId):Tree (AV × Heap × Nat):=.asrt ((A.length:Int) < 17592186044416∧okGo (A,g)) (.ite (goneAt A g == -1) (.ret (.own 0,[(0,.rows .ape e A)],1)) (.asrt (1=1∧TTd (((A,g,e),goneAt A g),IntKind.i64.wrap (goneAt A g+1))=TTd (((A,g,e),goneAt A g),IntKind.i64.wrap (goneAt A g+1)))
 (.asrt ((0≤goneAt A g∧goneAt A g < IntKind.i64.wrap (goneAt A g+1)∧IntKind.i64.wrap (goneAt A g+1)≤A.length)∧(A.length:Int) < 17592186044416∧(g.length:Int) < 17592186044416)
  (delE (delN g (A,goneAt A g) (IntKind.i64.wrap (goneAt A g+1))).1 (delN g (A,goneAt A g) (IntKind.i64.wrap (goneAt A g+1))).2 e))))
theorem fDelGo (A:List Fu.Ape) (g:List Int) (e:TypeId):inlineX c131 (exec c131 60) 84 [.own 0,goneF g] [(0,.rows .ape e A)] 1=delT A g e:=by kernel_rfl
def dropA (g:List Int) (A:List Fu.Ape):List Fu.Ape:=A.filter fun a=>!hasI g a.ID
theorem foldDl (g : List Int) (k : Nat) : ∀ (A : List Fu.Ape) (i j : Int), 0 ≤ i → i < j → j + k = A.length →
    (foldI (nxtDl g) k (A,i) j).1.length=A.length∧(i≤(foldI (nxtDl g) k (A,i) j).2∧(foldI (nxtDl g) k (A,i) j).2≤i+k)∧(foldI (nxtDl g) k (A,i) j).1.take (foldI (nxtDl g) k (A,i) j).2.toNat=A.take i.toNat ++ dropA g (A.drop j.toNat):=by
  induction k with
  | zero =>
    intro A i j h0 h1 h2
    rw [drop_end (by omega)]
    exact ⟨rfl,⟨Int.le_refl _,by simp [foldI]⟩,by simp [foldI,dropA]⟩
  | succ k ih =>
    intro A i j h0 h1 h2
    have hd:=drop_rd (r:=.ape) (xs:=A) (i:=j) (by omega) (by omega)
    have hd':dropA g (A.drop j.toNat)=bif !hasI g (rd .ape A j).ID then rd .ape A j :: dropA g (A.drop (j+1).toNat) else dropA g (A.drop (j+1).toNat):=by
      rw [hd]
      unfold dropA
      rw [List.filter_cons]
      cases hasI g (rd .ape A j).ID <;> rfl
    rw [hd']
    unfold foldI
    cases hb:(!hasI g (rd .ape A j).ID) with
    | true =>
      have e2:nxtDl g (A,i) j=(upd .ape A i (rd .ape A j),i+1):=by
        unfold nxtDl
        simp only [hb,cond_true]
      rw [e2]
      have hl:(upd .ape A i (rd .ape A j)).length=A.length:=by simp [upd]
      obtain ⟨k1,k2,k3⟩:=ih (upd .ape A i (rd .ape A j)) (i+1) (j+1) (by omega) (by omega) (by rw [hl]; omega)
      refine ⟨k1.trans hl,⟨by omega,by omega⟩,?_⟩
      rw [k3]
      have hi:i.toNat < A.length:=by omega
      have t1:(upd .ape A i (rd .ape A j)).take (i+1).toNat=A.take i.toNat ++ [rd .ape A j]:=by
        unfold upd
        rw [show (i+1).toNat=i.toNat+1 by omega,List.take_add_one,List.take_set_of_le (Nat.le_refl _),List.getElem?_set_self hi]
        rfl
      have t2:(upd .ape A i (rd .ape A j)).drop (j+1).toNat=A.drop (j+1).toNat:=by
        unfold upd
        exact List.drop_set_of_lt (by omega)
      rw [t1,t2]
      simp
    | false =>
      have e2:nxtDl g (A,i) j=(A,i):=by unfold nxtDl; simp only [hb,cond_false]
      rw [e2]
      obtain ⟨k1,k2,k3⟩:=ih A i (j+1) h0 (by omega) (by omega)
      exact ⟨k1,⟨by omega,by omega⟩,k3⟩
theorem goneAt_spec (A:List Fu.Ape) (g:List Int):(goneAt A g = -1∧dropA g A=A)∨((0≤goneAt A g∧goneAt A g < A.length)∧dropA g A=A.take (goneAt A g).toNat ++ dropA g (A.drop (goneAt A g+1).toNat)):=by
 have all:∀ n:Nat,n≤A.length→(∀ k:Int,0≤k→k < n→pGo (A,g) k=false)→dropA g (A.take n)=A.take n:=by
  intro n hn h
  unfold dropA
  rw [List.filter_eq_self]
  intro a ha
  obtain ⟨m,hm,e⟩:=List.getElem_of_mem ha
  rw [List.length_take] at hm
  have h1:=h m (by omega) (by omega)
  have e1:rd .ape A m=a:=by
   rw [← e,List.getElem_take]
   have:m < A.length:=by omega
   simp [rd,this]
  unfold pGo at h1
  simp only [e1] at h1
  rw [h1]
  rfl
 unfold goneAt
 cases hf:firstP (pGo (A,g)) A.length 0 with
 | none =>
  left
  refine ⟨rfl,?_⟩
  have:=all A.length (Nat.le_refl _) fun k h1 h2=>firstP_none hf k h1 (by omega)
  rwa [List.take_length] at this
 | some k =>
  right
  obtain ⟨⟨h1,h2⟩,h3,h4⟩:=firstP_some hf
  simp only [Option.getD_some]
  refine ⟨⟨h1,by omega⟩,?_⟩
  have hk:=all k.toNat (by omega) fun i h5 h6=>h4 i h5 (by omega)
  have hd:=drop_rd (r:=.ape) (xs:=A) (i:=k) h1 (by omega)
  have e:dropA g A=dropA g (A.take k.toNat) ++ dropA g (A.drop k.toNat):=by
   unfold dropA
   rw [← List.filter_append,List.take_append_drop]
  rw [e,hk,hd]
  congr 1
  unfold dropA
  rw [List.filter_cons]
  unfold pGo at h3
  simp only at h3
  rw [h3]
  rfl
def eatGo:TypeId→List AV→Tree Blk
 | e,[.view .ape A,f]=>match decGone f with
  | some g=>.asrt ((A.length:Int) < 17592186044416∧(g.length:Int) < 17592186044416) (.ret (.rows .ape e (dropA g A)))
  | none=>.fail
 | _,_=>.fail
theorem eatGo_out {r : RTy} {e : TypeId} {xs : List r.carrier} {rest : List AV} {blk : Blk} (h : (eatGo e (.view r xs :: rest)).Out blk) :
    ∃ A f g,r=.ape∧HEq xs A∧rest=[f]∧decGone f=some g∧((A.length:Int) < 17592186044416∧(g.length:Int) < 17592186044416)∧blk=Blk.rows .ape e (dropA g A):=by
  match r,rest with
  | .ape,[f] =>
    have h':(match decGone f with | some g=>Tree.asrt ((xs.length:Int) < 17592186044416∧(g.length:Int) < 17592186044416) (Tree.ret (Blk.rows .ape e (dropA g xs))) | none=>Tree.fail).Out blk:=h
    cases hg:decGone f with
    | none=>rw [hg] at h'; exact h'.elim
    | some g =>
      rw [hg] at h'
      exact ⟨xs,f,g,rfl,HEq.rfl,rfl,hg,h'.1,h'.2.symm⟩
  | .ape,[]=>exact h.elim
  | .ape,_ :: _ :: _=>exact h.elim
  | .int _,_=>exact h.elim
  | .bool,_=>exact h.elim
  | .str,_=>exact h.elim
  | .ints _,_=>exact h.elim
  | .spec,_=>exact h.elim
  | .spr,_=>exact h.elim
  | .fix,_=>exact h.elim
  | .item,_=>exact h.elim
  | .live,_=>exact h.elim
  | .opt,_=>exact h.elim
  | .task,_=>exact h.elim
  | .aim,_=>exact h.elim
  | .op,_=>exact h.elim
theorem eatGo_valid:ValidEat c131.P 84 eatGo:=eat_of (C:=c131) c131_good 60 (by kernel_rfl) fun r e xs' rest blk hout=>by
 obtain ⟨A,f,g,rfl,e1,rfl,hg,⟨h1,h2⟩,rfl⟩:=eatGo_out hout
 cases e1
 rcases goneAt_spec A g with ⟨k1,k2⟩ | ⟨⟨k0,k1⟩,k2⟩
 ·have key:Gets (inlineX c131 (exec c131 60) 84 [.own 0,goneF g] [(0,.rows .ape e A)] 1) (.own 0,[(0,.rows .ape e A)],1):=by
   refine .of_eq (fDelGo A g e) ⟨⟨h1,h2⟩,?_⟩
   rw [k1]
   exact (Tree.out_ite_true rfl).2 rfl
  exact ⟨[goneF g],0,_,_,.ape,e,A,.cons (dGone.ok _ _ hg) .nil,rfl,key,rfl,rfl,by rw [k2]⟩
 ·have hw:IntKind.i64.wrap (goneAt A g+1)=goneAt A g+1:=wrap_fits (by omega) (by omega)
  obtain ⟨q1,q2,q3⟩:=foldDl g ((A.length:Int)-(goneAt A g+1)).toNat A (goneAt A g) (goneAt A g+1) k0 (by omega) (by omega)
  have eD:delN g (A,goneAt A g) (goneAt A g+1)=foldI (nxtDl g) ((A.length:Int)-(goneAt A g+1)).toNat (A,goneAt A g) (goneAt A g+1):=rfl
  rw [← eD] at q1 q2 q3
  generalize delN g (A,goneAt A g) (goneAt A g+1)=D at q1 q2 q3 eD
  obtain ⟨D,n⟩:=D
  simp only at q1 q2 q3
  have hz:(delZ D n).take n.toNat=D.take n.toNat:=by
   unfold delZ
   rw [show D.length-(D.length-n.toNat)=n.toNat by omega,List.take_append_of_le_length (by rw [List.length_take]; omega),List.take_take,Nat.min_self]
  have hzl:(delZ D n).length=D.length:=by
   unfold delZ
   rw [List.length_append,List.length_take,List.length_replicate]
   omega
  have key:Gets (inlineX c131 (exec c131 60) 84 [.own 0,goneF g] [(0,.rows .ape e A)] 1) (.own 1,[(1,.rows .ape e (dropA g A))],2):=by
   refine .of_eq (fDelGo A g e) ?_
   unfold delT
   rw [hw]
   refine ⟨⟨h1,h2⟩,(Tree.out_ite_false (by rw [beq_eq_false_iff_ne]; omega)).2 ⟨⟨rfl,rfl⟩,⟨⟨k0,by omega,by omega⟩,h1,h2⟩,?_⟩⟩
   have eD':delN g (A,goneAt A g) (goneAt A g+1)=(D,n):=eD ▸ rfl
   rw [eD']
   show (delE D n e).Out _
   unfold delE
   refine ⟨⟨by omega,by omega,by omega⟩,⟨by rw [show D.length-(D.length-n.toNat)=n.toNat by omega],by omega⟩,⟨by omega,by rw [hzl]; omega,by rw [hzl]; omega⟩,?_⟩
   rw [hz,q3,← k2]
   rfl
  have hget:Heap.get [(1,Blk.rows .ape e (dropA g A))] 1=some (.rows .ape e (dropA g A)):=rfl
  refine ⟨[goneF g],1,[(1,.rows .ape e (dropA g A))],2,.ape,e,dropA g A,.cons (dGone.ok _ _ hg) .nil,?_,?_,hget,?_,?_⟩
  ·rfl
  ·exact key
  ·rfl
  ·rfl
noncomputable def c132:Cfg:=c131.addEat 84 eatGo
theorem c132_good:GoodCfg c132:=c131_good.addEat eatGo_valid
end Go.Fx
namespace Go.Fx
open Go Go.Proofs
abbrev XTk:=Fu.World × Fu.World × List Int × List Int × Int × Int
def traceZ:List AV:=[.lit .i64 0,.lit .i64 0,.lit .i64 0,.lit .i64 0,.nils,.nils,.nils]
def hTk (x:XTk):Heap:=[(0,.cells (encW x.1)),(1,.cells zeroWA),(2,.cells traceZ),(3,.cells [.int .i64 x.2.1.Now,.own 4,.own 5,.int .i64 x.2.1.Cur]),(4,.rows .task 48 x.2.1.T),(5,.rows .ape 93 x.2.1.A),(6,.rows (.int .i64) 3 x.2.2.1),(7,.cells [.int .i64 x.2.2.2.2.1,.int .i64 x.2.2.2.2.2]),(8,.cells [.own 9]),(9,.rows (.int .i64) 3 x.2.2.2.1)]
def S1k (x:XTk):St:=⟨puts (J 80) [(2,.ptr 0 0),(4,.ptr 1 0),(5,.ptr 2 0),(7,.ptr 3 0),(8,.own 6),(9,.ptr 7 0),(10,.ptr 8 0)],hTk x,10⟩
def s1Tk:List Sh:=sets (Js 80) [(2,.keep),(4,.keep),(5,.keep),(7,.keep),(8,.keep),(9,.keep),(10,.keep)]
def ksTk:List Nat:=[0,1,2,3,4,5,6,7,8,9]
def f1Tk (σ:St):St:=ordH ksTk (norm2 0 [.tmp 2,.tmp 4,.tmp 5,.tmp 7,.cell 6 1,.cell 6 2,.tmp 8,.tmp 9,.tmp 10,.cell 9 0] ksTk s1Tk σ)
def lsTk:List Loc:=[.tmp 2,.tmp 4,.tmp 5,.tmp 7,.cell 3 1,.cell 3 2,.tmp 8,.tmp 9,.tmp 10,.cell 8 0]
def f2Tk (σ:St):St:=ordH ksTk (norm2 0 lsTk ksTk s1Tk σ)
def s3Tk:List Sh:=sets (Js 80) [(2,.keep),(4,.keep),(5,.keep),(7,.keep),(8,.keep),(9,.keep),(10,.keep),(13,.int)]
def f3Tk (σ:St):St:=genBlk 3 [.int,.keep,.keep,.int] (ordH ksTk (norm2 0 lsTk ksTk s3Tk σ))
def lTick:List (Nat × (St→St)):=[(5,f1Tk),(1,f2Tk),(1,f3Tk)]
theorem lTick_weak:∀ p ∈ lTick,∀ σ,Weak 0 σ (p.2 σ):=by
 intro p hp σ
 rcases List.mem_cons.1 hp with rfl | hp
 ·exact (Weak.norm2 0 _ ksTk s1Tk σ).trans (Weak.ordH 0 ksTk _)
 rcases List.mem_cons.1 hp with rfl | hp
 ·exact (Weak.norm2 0 _ ksTk s1Tk σ).trans (Weak.ordH 0 ksTk _)
 rcases List.mem_cons.1 hp with rfl | hp
 ·exact ((Weak.norm2 0 _ ksTk s3Tk σ).trans (Weak.ordH 0 ksTk _)).trans (Weak.genBlk 0 3 _ _)
 ·cases hp
def S3k (x:XTk) (f:Int):St:=⟨puts (J 80) [(2,.ptr 0 0),(4,.ptr 1 0),(5,.ptr 2 0),(7,.ptr 3 0),(8,.own 6),(9,.ptr 7 0),(10,.ptr 8 0),(13,.int .i64 f)],hTk x,10⟩
def startW (w:Fu.World) (d:List Int):Fu.World:=⟨w.Now,(beginW w d).1.T,w.A,w.Cur⟩
def leftW (w:Fu.World) (d:List Int):Fu.World:=⟨w.Now,(beginW w d).1.T,dropA (pickW (startW w d)).2 w.A,w.Cur⟩
def curW (x:Fu.World) (c:Int × Int):Fu.World:=bif !(c.1 == 1 || c.1 == 3) && c.1 == 2 then { x with Cur:=c.2 } else x
def ranTask (x:Fu.World) (id:Int):Fu.World:={ x with T:=upd .task x.T (idxT x.T id) (runK (rd .task x.T (idxT x.T id))) }
def ranA (a:Fu.Ape):Fu.Ape:=⟨a.ID,a.Due,a.C,a.V,IntKind.i64.wrap (a.Ran+1)⟩
def ranAs (A:List Fu.Ape) (id:Int):List Fu.Ape:=upd .ape A (atA A id) (ranA (rd .ape A (atA A id)))
def doneB (A:List Fu.Ape) (id:Int):Bool:=decide ((rd .ape (ranAs A id) (atA A id)).Ran≥(rd .ape (ranAs A id) (atA A id)).C)
def noCur (x:Fu.World):Fu.World:=bif atA x.A x.Cur == -1 then { x with Cur:=-1 } else x
def ranWho (x:Fu.World) (c:Int × Int):Fu.World × Int:=bif c.1 == 1 || c.1 == 3 then (ranTask x c.2,stepF (rd .task x.T (idxT x.T c.2)).J) else
 bif c.1 == 2 then (bif doneB x.A c.2 then ({ x with A:=(ranAs x.A c.2).eraseIdx (atA x.A c.2).toNat },1) else ({ x with A:=ranAs x.A c.2 },0)) else (x,0)
def ranW (x:Fu.World) (c:Int × Int):Fu.World × Int:=(noCur (ranWho x c).1,(ranWho x c).2)
def fin3 (x:XTk) (y:Fu.World) (f:Int):Tree (Ex × St):=.asrt ((y.A.length:Int) < 17592186044416) (.ite (atA y.A y.Cur == -1) (.ret (.normal,S3k (x.1,{ y with Cur:=-1 },x.2.2) f)) (.ret (.normal,S3k (x.1,y,x.2.2) f)))
def apeAt (x:Fu.World) (id:Int):Prop:=0≤atA x.A id∧atA x.A id < x.A.length
def apeAt' (x:Fu.World) (id:Int):Prop:=0≤atA x.A id∧atA x.A id < (ranAs x.A id).length
def taskAt (x:Fu.World) (id:Int):Prop:=0≤idxT x.T id∧idxT x.T id < x.T.length
def t3Tk (x:XTk):Tree (Ex × St):=.asrt (smallW x.2.1) (.ite (x.2.2.2.2.1 == 1 || x.2.2.2.2.1 == 3)
 (.asrt (taskAt x.2.1 x.2.2.2.2.2) (.asrt (taskAt x.2.1 x.2.2.2.2.2) (.asrt (smallC (rd .task x.2.1.T (idxT x.2.1.T x.2.2.2.2.2)).J) (.asrt (taskAt x.2.1 x.2.2.2.2.2) (.asrt (taskAt x.2.1 x.2.2.2.2.2) (fin3 x (ranTask x.2.1 x.2.2.2.2.2) (stepF (rd .task x.2.1.T (idxT x.2.1.T x.2.2.2.2.2)).J)))))))
 (.ite (x.2.2.2.2.1 == 2) (.asrt (apeAt x.2.1 x.2.2.2.2.2) (.asrt (apeAt x.2.1 x.2.2.2.2.2) (.asrt (apeAt x.2.1 x.2.2.2.2.2) (.asrt (apeAt x.2.1 x.2.2.2.2.2) (.asrt (apeAt' x.2.1 x.2.2.2.2.2) (.asrt (apeAt' x.2.1 x.2.2.2.2.2) (.asrt (apeAt' x.2.1 x.2.2.2.2.2) (.asrt (apeAt' x.2.1 x.2.2.2.2.2)
  (.ite (doneB x.2.1.A x.2.2.2.2.2) (.asrt (93=93∧apeAt' x.2.1 x.2.2.2.2.2∧IntKind.i64.wrap (atA x.2.1.A x.2.2.2.2.2+1)=atA x.2.1.A x.2.2.2.2.2+1) (fin3 x { x.2.1 with A:=(ranAs x.2.1.A x.2.2.2.2.2).eraseIdx (atA x.2.1.A x.2.2.2.2.2).toNat } 1))
   (fin3 x { x.2.1 with A:=ranAs x.2.1.A x.2.2.2.2.2 } 0)))))))))) (fin3 x x.2.1 0)))
theorem s1Tick (w:Fu.World) (d:List Int):stA c132 100 38 5 f1Tk [.agg (encW w),.view (.int .i64) d] =
  .asrt (smallW w) (.ite (!mayW w || w.Now == 274877906944) (.asrt (boundLT w.T) (.asrt (boundLA w.A) (.ret (.ret, ⟨puts (J 80) [(0, .agg (encW w)), (1, .view (.int .i64) d), (2, .ptr 0 0), (4, .ptr 1 0), (5, .ptr 2 0), (6, .blit false), (16, .bool (bif !mayW w then mayW w else mayW w)), (17, .bool (bif !mayW w then !mayW w else !mayW w)), (18, .bool !mayW w), (22, .blit true), (23, .ptr 0 1), (24, .view .task w.T), (25, .own 19), (26, .ptr 0 2), (27, .view .ape w.A), (28, .own 83), (29, .ptr 0 1), (30, .ptr 0 2), (31, .agg [.int .i64 w.Now, .own 19, .own 83, .int .i64 w.Cur]), (32, .agg traceZ)],
      [(0,.cells [.int .i64 w.Now,.own 19,.own 83,.int .i64 w.Cur]),(1,.cells [.int .i64 w.Now,.own 19,.own 83,.int .i64 w.Cur]),(2,.cells traceZ),(19,.rows .task 48 w.T),(83,.rows .ape 93 w.A)],84⟩))))
    (.asrt (smallW w) (.asrt (okWho (startW w d)) (.asrt ((w.A.length:Int) < 17592186044416∧((pickW (startW w d)).2.length:Int) < 17592186044416) (.ret (.normal,S1k (w,leftW w d,(beginW w d).2,(pickW (startW w d)).2,whoW (startW w d)))))))):=by kernel_rfl
theorem s2Tick (x:XTk):stM c132 100 38 5 1 f2Tk (S1k x) =
 .asrt (smallW x.2.1) (.ite (x.2.2.2.2.1 == 1 || x.2.2.2.2.1 == 3) (.ret (.normal,S1k x)) (.ite (x.2.2.2.2.1 == 2) (.ret (.normal,S1k (x.1,{ x.2.1 with Cur:=x.2.2.2.2.2 },x.2.2))) (.ret (.normal,S1k x)))):=by kernel_rfl
theorem s3Tick (x:XTk):stM c132 100 38 6 1 f3Tk (S1k x)=t3Tk x:=by kernel_rfl
def laterW (x:Fu.World):Fu.World:=⟨IntKind.i64.wrap (x.Now+1),x.T,x.A,x.Cur⟩
def resTk (at':Int) (c:Int × Int) (f:Int) (o g:List Int) (y:Fu.World) (m:List Int):AV × List Blk:=(.tup [.agg [.int .i64 y.Now,.own 2,.own 3,.int .i64 y.Cur],.agg [.int .i64 at',.int .i64 c.1,.int .i64 c.2,.int .i64 f,.own 0,.own 4,.own 1],.blit true],[.rows (.int .i64) 3 o,.rows (.int .i64) 3 g,.rows .task 48 y.T,.rows .ape 93 y.A,.rows (.int .i64) 3 m])
theorem s4Tick (x:XTk) (f:Int):stB c132 100 38 7 (S3k x f)=.asrt (smallW (laterW x.2.1)) (.ret (resTk x.1.Now x.2.2.2.2 f x.2.2.1 x.2.2.2.1 (endW (laterW x.2.1)) (missedW (laterW x.2.1)))):=by kernel_rfl
theorem fin3_out {x:XTk} {y:Fu.World} {f:Int} (h:(y.A.length:Int) < 17592186044416):(fin3 x y f).Out (.normal,S3k (x.1,noCur y,x.2.2) f):=by
 refine ⟨h,?_⟩
 unfold noCur
 cases hb:(atA y.A y.Cur == -1) with
 | true=>exact (Tree.out_ite_true rfl).2 rfl
 | false=>exact (Tree.out_ite_false rfl).2 rfl
theorem ranAs_len (A:List Fu.Ape) (id:Int):(ranAs A id).length=A.length:=by simp [ranAs,upd]
def ranOK (x:Fu.World) (c:Int × Int):Prop:=smallW x∧(c.1=1∨c.1=3→taskAt x c.2∧smallC (rd .task x.T (idxT x.T c.2)).J)∧(c.1=2→apeAt x c.2)
theorem t3_out {x:XTk} (h:ranOK x.2.1 x.2.2.2.2):(t3Tk x).Out (.normal,S3k (x.1,(ranW x.2.1 x.2.2.2.2).1,x.2.2) (ranW x.2.1 x.2.2.2.2).2):=by
 obtain ⟨⟨h1,h2⟩,h3,h4⟩:=h
 refine ⟨⟨h1,h2⟩,?_⟩
 unfold ranW ranWho
 cases hb:(x.2.2.2.2.1 == 1 || x.2.2.2.2.1 == 3) with
 | true =>
  obtain ⟨k1,k2⟩:=h3 (by simpa using hb)
  exact (Tree.out_ite_true rfl).2 ⟨k1,k1,k2,k1,k1,fin3_out (by show (x.2.1.A.length:Int) < _; omega)⟩
 | false =>
  refine (Tree.out_ite_false rfl).2 ?_
  cases hc:(x.2.2.2.2.1 == 2) with
  | true =>
   have k1:=h4 (by simpa using hc)
   have k2:apeAt' x.2.1 x.2.2.2.2.2:=⟨k1.1,by rw [ranAs_len]; exact k1.2⟩
   refine (Tree.out_ite_true rfl).2 ⟨k1,k1,k1,k1,k2,k2,k2,k2,?_⟩
   have hl:=ranAs_len x.2.1.A x.2.2.2.2.2
   simp only [cond_false,cond_true]
   cases hd:doneB x.2.1.A x.2.2.2.2.2 with
   | true =>
    obtain ⟨q1,q2⟩:=k1
    refine (Tree.out_ite_true rfl).2 ⟨⟨by trivial,k2,wrap_fits (by omega) (by omega)⟩,fin3_out ?_⟩
    have:=List.length_eraseIdx_le (ranAs x.2.1.A x.2.2.2.2.2) (atA x.2.1.A x.2.2.2.2.2).toNat
    show (((ranAs x.2.1.A x.2.2.2.2.2).eraseIdx _).length:Int) < _
    omega
   | false =>
    refine (Tree.out_ite_false rfl).2 (fin3_out ?_)
    show ((ranAs x.2.1.A x.2.2.2.2.2).length:Int) < _
    omega
  | false=>exact (Tree.out_ite_false rfl).2 (fin3_out (by omega))
theorem s2_out {x:XTk} (h:smallW x.2.1):Gets (stM c132 100 38 5 1 f2Tk (S1k x)) (.normal,S1k (x.1,curW x.2.1 x.2.2.2.2,x.2.2)):=by
 refine .of_eq (s2Tick x) ⟨h,?_⟩
 unfold curW
 cases hb:(x.2.2.2.2.1 == 1 || x.2.2.2.2.1 == 3) with
 | true=>exact (Tree.out_ite_true rfl).2 rfl
 | false =>
  refine (Tree.out_ite_false rfl).2 ?_
  cases hc:(x.2.2.2.2.1 == 2) with
  | true=>exact (Tree.out_ite_true rfl).2 rfl
  | false=>exact (Tree.out_ite_false rfl).2 rfl
def midW (w:Fu.World) (d:List Int):Fu.World × Int:=ranW (curW (leftW w d) (whoW (startW w d))) (whoW (startW w d))
def tickW (w:Fu.World) (d:List Int):Fu.World:=endW (laterW (midW w d).1)
def tickM (w:Fu.World) (d:List Int):List Int:=missedW (laterW (midW w d).1)
def tickR (w:Fu.World) (d:List Int):AV × List Blk:=resTk w.Now (whoW (startW w d)) (midW w d).2 (beginW w d).2 (pickW (startW w d)).2 (tickW w d) (tickM w d)
def okTick (w:Fu.World) (d:List Int):Prop:=okWho (startW w d)∧((pickW (startW w d)).2.length:Int) < 17592186044416∧ranOK (curW (leftW w d) (whoW (startW w d))) (whoW (startW w d))∧smallW (leftW w d)∧smallW (laterW (midW w d).1)
theorem callTick {w:Fu.World} {d:List Int} (h1:smallW w) (hb:(!mayW w || w.Now == 274877906944)=false) (h2:okTick w d):Gets (callW c132 lTick 100 38 [.agg (encW w),.view (.int .i64) d]) (tickR w d):=by
 obtain ⟨k1,k2,k3,k4,k5⟩:=h2
 have q1:Gets (stA c132 100 38 5 f1Tk [.agg (encW w),.view (.int .i64) d]) (.normal,S1k (w,leftW w d,(beginW w d).2,(pickW (startW w d)).2,whoW (startW w d))) :=
  .of_eq (s1Tick w d) ⟨h1,(Tree.out_ite_false hb).2 ⟨h1,k1,⟨by have:=h1.2; omega,k2⟩,rfl⟩⟩
 have q2:=s2_out (x:=(w,leftW w d,(beginW w d).2,(pickW (startW w d)).2,whoW (startW w d))) k4
 have q3:Gets (stM c132 100 38 6 1 f3Tk (S1k (w,curW (leftW w d) (whoW (startW w d)),(beginW w d).2,(pickW (startW w d)).2,whoW (startW w d)))) (.normal,S3k (w,(midW w d).1,(beginW w d).2,(pickW (startW w d)).2,whoW (startW w d)) (midW w d).2) :=
  .of_eq (s3Tick _) (t3_out (x:=(w,curW (leftW w d) (whoW (startW w d)),(beginW w d).2,(pickW (startW w d)).2,whoW (startW w d))) k3)
 have q4:Gets (stB c132 100 38 7 (S3k (w,(midW w d).1,(beginW w d).2,(pickW (startW w d)).2,whoW (startW w d)) (midW w d).2)) (tickR w d) :=
  .of_eq (s4Tick (w,(midW w d).1,(beginW w d).2,(pickW (startW w d)).2,whoW (startW w d)) (midW w d).2) ⟨k5,rfl⟩
 exact G_start (by kernel_rfl) q1 (G_next q2 (G_next q3 (G_last q4)))
end Go.Fx
