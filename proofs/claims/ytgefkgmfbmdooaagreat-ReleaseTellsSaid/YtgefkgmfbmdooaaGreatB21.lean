import Derived.Test.YtgefkgmfbmdooaaGreatC3
import Derived.Test.YtgefkgmfbmdooaaGreatFx5
import Derived.WalkKit
import Derived.OwnWalkIn
import Derived.TacticsInMore
import Derived.LoopNIn
import Derived.LoopIn
import Derived.Maps.AppendAt
import Derived.Shelf.Abstract
namespace Go.Fx
open Go Go.Proofs Go.RowKit
def stepsN (f b:Int):Nat→List Int
  | 0=>[]
  | k + 1=>stepsN f b k ++ [f + b * k]
theorem stepsN_len (f b:Int):∀ k:Nat,(stepsN f b k).length = k
  | 0=>rfl
  | k + 1=>by simp [stepsN,stepsN_len f b k]
def stepsK (f b u:Int):Nat:=if f≤u then ((u - f) / b).toNat + 1 else 0
def stepsL (f b u:Int):List Int:=stepsN f b (stepsK f b u)
theorem stepsK_lt {f b u:Int} {j:Nat} (hb:1≤b):f + b * j≤u↔j < stepsK f b u:=by
  unfold stepsK
  have h0:0≤b * (j:Int):=Int.mul_nonneg (by omega) (by omega)
  by_cases h:f≤u
  · rw [if_pos h]
    have h1:=Int.ediv_nonneg (show 0≤u - f by omega) (show 0≤b by omega)
    have h2:(j:Int)≤(u - f) / b↔(j:Int) * b≤u - f:=Int.le_ediv_iff_mul_le (by omega)
    rw [Int.mul_comm] at h2
    constructor
    · intro h3; have:=h2.2 (by omega); omega
    · intro h3; have:=h2.1 (by omega); omega
  · rw [if_neg h]; constructor <;> intro h3 <;> omega
set_option maxRecDepth 100000 in
set_option maxHeartbeats 1000000 in
theorem each1_in (F : Fence) (n : Nat) (h6 : F.fn 139) (hro : F.round = none) (hn : 1 ≤ n) (l Bn : Nat) (f b u : Int) (hb : 1 ≤ b) (hb2 : b ≤ 1099511627776) (hf : -1099511627776 ≤ f) (hu : u ≤ 2199023255552) (J Jx : List Int → World → Prop)
    (hY:∀ pre x W,J pre W→pre.length < stepsK f b u→YieldAt F (n - 1) Tryz.prog l #[.int .i64 x] W fun e W' =>
      (e = .returned (.bool true)∧J (pre ++ [x]) W'∧W'.heap[Bn]? = W.heap[Bn]?)∨(e = .returned (.bool false)∧Jx (pre ++ [x]) W'))
    (W:World) (hB:W.heap[Bn]? = some (.cells #[.int .i64 f,.int .i64 b,.int .i64 u] 138 (0,0))) (h0:J [] W) :
    CallsIn F n Tryz.prog 139 #[.func (.yield l) #[] #[],.pointer (some ⟨Bn,0,none⟩)] W fun e W'=>(∃ v,e = .returned v) ∧
      ((∃ ys,ys = stepsL f b u∧J ys W')∨(∃ pre:List Int,True∧Jx pre W')):=by
  have cells:∀ {V:World},V.heap[Bn]? = some (.cells #[.int .i64 f,.int .i64 b,.int .i64 u] 138 (0,0))→V.cell? ⟨Bn,0,none⟩ = some (.int .i64 f)∧V.cell? ⟨Bn,1,none⟩ = some (.int .i64 b)∧V.cell? ⟨Bn,2,none⟩ = some (.int .i64 u):=by
    intro V h
    refine ⟨?_,?_,?_⟩ <;> simp [World.cell?,h]
  obtain ⟨c0,c1,c2⟩:=cells hB
  refine callsIn_of_wp Tryz.func139 rfl h6 ?_ hro
  simp only [Tryz.ntmps139,List.size_toArray,List.length_cons,List.length_nil,Nat.reduceAdd,Nat.reduceSub,Array.replicate_succ,Array.replicate_zero,List.push_toArray,List.append_toArray,List.nil_append,List.cons_append]
  gi_wp2
  gi_loopw [3] (fun p wr=>∃ j:Nat,p = .int .i64 (f + b * j)∧j≤stepsK f b u∧J (stepsN f b j) wr∧wr.heap[Bn]? = some (.cells #[.int .i64 f,.int .i64 b,.int .i64 u] 138 (0,0)))
    (fun p _=>match p with | .int _ i=>(u + b - i).toNat | _=>0)
  case atStart=>exact ⟨0,by simp,Nat.zero_le _,h0,hB⟩
  case round =>
    obtain ⟨j,rfl,hj,hJ,hB'⟩:=hrel
    obtain ⟨d0,d1,d2⟩:=cells hB'
    clear c0 c1 c2 hB h0
    have hlen:(stepsN f b j).length = j:=stepsN_len f b j
    by_cases hle:f + b * j≤u
    · have hlt:=(stepsK_lt hb).1 hle
      have e4:f + b * ((j + 1:Nat):Int) = f + b * (j:Int) + b:=by
        rw [show ((j + 1:Nat):Int) = (j:Int) + 1 by omega,Int.mul_add,Int.mul_one]; omega
      have h00:0≤b * (j:Int):=Int.mul_nonneg (by omega) (by omega)
      obtain ⟨fn,tmps,assign,body,hy,hR⟩:=hY (stepsN f b j) (f + b * j) wr hJ (by omega)
      gi_wp2
      · refine hR.mono ?_
        rintro e W3 (⟨rfl,hJ3,hk3⟩ | ⟨rfl,hJx3⟩)
        · obtain ⟨e0,e1,e2⟩:=cells (hk3.trans hB')
          gi_wp2
          go_roundw
          case rel =>
            refine ⟨j + 1,?_,hlt,hJ3,hk3.trans hB'⟩
            rw [e4]
          case measure =>
            show (u + b - (f + b * (j:Int) + b)).toNat < (u + b - (f + b * (j:Int))).toNat
            omega
        · gi_wp2
          go_end0
          exact ⟨⟨_,rfl⟩,.inr ⟨_,trivial,hJx3⟩⟩
    · gi_wp2
      refine ⟨fun _ h=>(by cases h),?_⟩
      gi_wp2
      go_end0
      have hje:j = stepsK f b u:=by
        have:=mt (stepsK_lt (j:=j) hb).2 (Int.not_le.2 hle)
        omega
      exact ⟨⟨_,rfl⟩,.inl ⟨_,by rw [hje]; rfl,hJ⟩⟩
set_option maxHeartbeats 1000000 in
theorem each_in (F : Fence) (n : Nat) (h5 : F.fn 135) (hro : F.round = none) (f b u : Int) (w : World) :
    CallsIn F n Tryz.prog 135 #[.agg #[.int .i64 f,.int .i64 b,.int .i64 u]] w fun e w'=>e = .returned (.func (.func 139) #[] #[.pointer (some ⟨w.heap.size,0,none⟩)])∧w' = w.alloc (.cells #[.int .i64 f,.int .i64 b,.int .i64 u] 138):=by
  refine callsIn_of_wp Tryz.func135 rfl h5 ?_ hro
  simp only [Tryz.ntmps135,List.size_toArray,List.length_cons,List.length_nil,Nat.reduceAdd,Nat.reduceSub,Array.replicate_succ,Array.replicate_zero,List.push_toArray,List.append_toArray,List.nil_append,List.cons_append]
  gi_wp2
  go_ret
  exact ⟨rfl,rfl⟩
def stepKp (B:Nat) (V V':World):Prop:=V'.heap[B]? = V.heap[B]?
theorem each_stops (F : Fence) (n : Nat) (h6 : F.fn 139) (hro : F.round = none) (hn : 1 ≤ n) (Bn : Nat) (f b u : Int) (hb : 1 ≤ b) (hb2 : b ≤ 1099511627776) (hf : -1099511627776 ≤ f) (hu : u ≤ 2199023255552) (w : World)
    (hB:w.heap[Bn]? = some (.cells #[.int .i64 f,.int .i64 b,.int .i64 u] 138 (0,0))) :
    SeqStopsK F n Tryz.prog 139 #[.pointer (some ⟨Bn,0,none⟩)] (fun x:Int=>#[Value.int .i64 x]) (stepKp Bn) (fun ys=>ys = stepsL f b u) (fun _=>True) (stepsK f b u) w:=fun l J Jx W hW _ _ hY h0 =>
  each1_in F n h6 hro hn l Bn f b u hb hb2 hf hu J Jx hY W ((hW.block Bn (Array.getElem?_eq_some_iff.1 hB).1).trans hB) h0
structure ListAt (w:World) (f b u:Int) (pre:List Int) (W:World):Prop where
  box:∃ v,W.heap[w.heap.size + 1]? = some (.cells #[v] 26 (0,0))∧W.ownsRow w.heap.size 3 1 v pre.length (pre.map (Value.int .i64))
  eb:W.heap[w.heap.size + 1 + 1]? = some (.cells #[.int .i64 f,.int .i64 b,.int .i64 u] 138 (0,0))
  below:Below w.heap.size w W
theorem row_ne {W : World} {base : Nat} {e : TypeId} {size : Nat} {v : Value} {k : Nat} {xs : List Value} (h : W.ownsRow base e size v k xs) {j : Nat} {o : Obj} (hj : W.heap[j]? = some o) (hno : ∀ cur, o ≠ .cells cur e (0, 0)) :
    v.ownBlock = none∨v.ownBlock≠some j:=by
  rcases h.2 with ⟨rfl,_⟩ | ⟨g,cap,cur,rfl,_,hgb,_⟩
  · exact .inl rfl
  · refine .inr fun e'=>?_
    have:g = j:=by simpa [Value.ownBlock] using e'
    subst this; rw [hgb] at hj; cases hj; exact hno cur rfl
theorem row_ne' {W:World} {base:Nat} {e:TypeId} {size:Nat} {v:Value} {k:Nat} {xs:List Value} (h:W.ownsRow base e size v k xs) {j:Nat} {o:Obj} (hj:W.heap[j]? = some o) (hno:∀ cur,o≠.cells cur e (0,0)):some j≠v.ownBlock:=by
  rcases row_ne h hj hno with e | e
  · rw [e]; simp
  · exact fun e'=>e e'.symm
theorem box_set {W:World} {B:Nat} {v:Value} {t:TypeId} (v':Value) (h:W.heap[B]? = some (.cells #[v] t (0,0))):(W.setCell ⟨B,0,none⟩ v').heap[B]? = some (.cells #[v'] t (0,0)):=by
  obtain ⟨hlt,hk⟩:=Array.getElem?_eq_some_iff.1 h
  show (W.heap.modify B _)[B]? = _
  rw [Array.getElem?_eq_getElem (by rw [Array.size_modify]; exact hlt),Array.getElem_modify_self,hk]
  rfl
theorem box_grown (W:World) (b:Nat) (v:Value):W.grownBy (W.setCell ⟨b,0,none⟩ v) (some b) :=
  ⟨rfl,rfl,rfl,(KeepsWalks.setCell W _ v).size,fun k _ hk=>Below.heap_setCell _ _ _ k (fun e=>hk (by rw [e]))⟩
theorem box_cell {W:World} {B:Nat} {v:Value} {t:TypeId} (h:W.heap[B]? = some (.cells #[v] t (0,0))):W.cell? ⟨B,0,none⟩ = some v∧W.frozen? ⟨B,0,none⟩ = false:=by
  constructor <;> simp [World.cell?,World.frozen?,h]
theorem row_cells {W:World} {base:Nat} {e:TypeId} {size:Nat} {v:Value} {k:Nat} {xs:List Value} (h:W.ownsRow base e size v k xs):∀ (j:Nat) (o:Obj),v.ownBlock = some j→W.heap[j]? = some o→o.isCells = true:=by
  intro j o hj ho
  rcases h.2 with ⟨rfl,_⟩ | ⟨g,cap,cur,rfl,_,hgb,_⟩
  · simp [Value.ownBlock] at hj
  · have:g = j:=by simpa [Value.ownBlock] using hj
    subst this; rw [hgb] at ho; cases ho; rfl
theorem infoInt:(Tryz.prog.info? 3).map (fun i=>(i.zero,i.size,i.bytes)) = some (some (.int .i64 0),1,8):=by kernel_rfl
theorem listAt_own (w:World) (f b u:Int) (B:Nat) (hB:w.heap.size≤B):OwnFrom B (ListAt w f b u):=fun s W W' row h hg hr=>by
  obtain ⟨v,h1,h2⟩:=h.box
  have hne:∀ {j:Nat} {o:Obj},W.heap[j]? = some o→o.isCells = true→W'.heap[j]? = some o:=fun hj ho=>by
    refine (hg.block _ (Array.getElem?_eq_some_iff.1 hj).1 ?_).trans hj
    intro e
    obtain ⟨_,o',h3,h4⟩:=hr _ e.symm
    rw [hj] at h3; cases h3; rw [ho] at h4; cases h4
  refine ⟨⟨v,hne h1 rfl,h2.kept hg ?_⟩,hne h.eb rfl,h.below.grown hg h.below.size fun k e=>Nat.le_trans hB (hr k e).1⟩
  rcases h2.2 with ⟨rfl,_⟩ | ⟨g,cap,cur,rfl,_,hgb,_⟩
  · exact .inl rfl
  · refine .inr fun e'=>?_
    obtain ⟨_,o',h3,h4⟩:=hr g (by rw [← e']; rfl)
    rw [hgb] at h3; cases h3; cases h4
set_option maxRecDepth 100000 in
set_option maxHeartbeats 2000000 in
theorem list_in (w : World) (f b u : Int) (hb : 1 ≤ b) (hb2 : b ≤ 1099511627776) (hf : -1099511627776 ≤ f) (hu : u ≤ 2199023255552) (hlen : stepsK f b u * 8 ≤ 140737488355328) :
    CallsIn Fence.wide 3 Tryz.prog 116 #[.agg #[.int .i64 f,.int .i64 b,.int .i64 u]] w fun e w'=>∃ v,e = .returned v∧w'.ownsRow w.heap.size 3 1 v (stepsL f b u).length ((stepsL f b u).map (Value.int .i64))∧Below w.heap.size w w':=by
  refine callsIn_of_wp_marks Tryz.func116 rfl trivial ?_ rfl
  simp only [Tryz.ntmps116,List.size_toArray,List.length_cons,List.length_nil,Nat.reduceAdd,Nat.reduceSub,Array.replicate_succ,Array.replicate_zero,List.push_toArray,List.append_toArray,List.nil_append,List.cons_append]
  gi_wp2
  refine ⟨trivial,(each_in Fence.wide _ trivial rfl f b u _).mono ?_⟩
  rintro e w' ⟨rfl,rfl⟩
  gi_wp2
  obtain ⟨W0,hW0⟩:∃ W0,((w.alloc (.cells #[.int .i64 f,.int .i64 b,.int .i64 u] 138)).alloc (.cells #[.slice none 0 0] 26)).alloc (.cells #[.int .i64 f,.int .i64 b,.int .i64 u] 138) = W0:=⟨_,rfl⟩
  have hs0:W0.heap.size = w.heap.size + 3:=by rw [← hW0]; simp
  have hB1:W0.heap[w.heap.size + 1]? = some (.cells #[.slice none 0 0] 26 (0,0)):=by
    rw [← hW0]; refine (Below.heap_alloc _ _ _ (by simp)).trans ?_
    have:=World.alloc_heap_new (w.alloc (.cells #[.int .i64 f,.int .i64 b,.int .i64 u] 138)) (.cells #[.slice none 0 0] 26); rwa [World.size_alloc] at this
  have hB2:W0.heap[w.heap.size + 1 + 1]? = some (.cells #[.int .i64 f,.int .i64 b,.int .i64 u] 138 (0,0)):=by
    rw [← hW0]; have:=World.alloc_heap_new ((w.alloc (.cells #[.int .i64 f,.int .i64 b,.int .i64 u] 138)).alloc (.cells #[.slice none 0 0] 26)) (.cells #[.int .i64 f,.int .i64 b,.int .i64 u] 138); rwa [World.size_alloc,World.size_alloc] at this
  have hb0:Below w.heap.size w W0:=by
    rw [← hW0]; exact (((Below.refl _ w).alloc (Nat.le_refl _) _).alloc (by simp) _).alloc (by simp; omega) _
  rw [hW0]
  have h0:ListAt w f b u [] W0:=⟨⟨_,hB1,rfl,.inl ⟨rfl,rfl⟩⟩,hB2,hb0⟩
  obtain ⟨ii,hi,hz0,hz1,hz2⟩:=info_parts infoInt
  refine wpIn_rangeFunc_ownF rfl (by decide) (gf:=139) (lb:=#[.pointer (some ⟨w.heap.size + 1 + 1,0,none⟩)]) rfl trivial (Go.Proofs.enters_of Tryz.func139 (by kernel_rfl) rfl)
    (each_stops Fence.wide 2 trivial rfl (by decide) (w.heap.size + 1 + 1) f b u hb hb2 hf hu W0 hB2) (fun h k=>Eq.trans k h) (fun V l o o' hl _ _ _=>World.putObj_heap_other (by omega)) (Below.refl _ _) (fun _=>rfl)
    (ListAt w f b u) (fun _ _ _=>False) (listAt_own w f b u _ (by omega)) (fun _ _ _ _ _ hs _ _=>hs) h0
    (fun x=>{ tmps:=#[.agg #[.int .i64 f,.int .i64 b,.int .i64 u],.pointer (some ⟨w.heap.size,0,none⟩),.slice none 0 0,.func (.func 135) #[] #[],.pointer (some ⟨w.heap.size + 1,0,none⟩),.int .i64 x,
      .func (.func 135) #[] #[],.agg #[.int .i64 f,.int .i64 b,.int .i64 u],.func (.func 139) #[] #[.pointer (some ⟨w.heap.size + 1 + 1,0,none⟩)],.int .i64 x,undef,undef,undef,undef,undef],defers:=[] }) ?assign ?body ?done ?stop
  case assign =>
    intro l x W K hK
    gi_wp2_with (rw [Oper.semAt_eq _ _ _ (fun c h=>by cases h)]; go_simp; try go_bits)
    exact hK
  case body =>
    intro l pre x W hI hlt
    obtain ⟨v,hv,hrow⟩:=hI.box
    obtain ⟨hc,hf⟩:=box_cell hv
    have heb:=hI.eb
    have hbel:=hI.below
    have hBlt:w.heap.size + 1 < W.heap.size:=(Array.getElem?_eq_some_iff.1 hv).1
    have hElt:w.heap.size + 1 + 1 < W.heap.size:=(Array.getElem?_eq_some_iff.1 heb).1
    have hpl:(pre.length:Int) < stepsK f b u:=by omega
    gi_wp2_with (first
      | (gi_at_builtin; go_loud (refine wpListIn_append_own _ rfl _ _ 26 rfl w.heap.size 3 ii (.int .i64 0) 1 8 Tryz.underlying26 hi hz0 hz1 hz2 rfl (by decide) _ _ _ rfl (hrow.alloc _) ⟨W.heap.size, 0, none⟩ 1 1 [.int .i64 x] rfl rfl (cell_one_new _ _ _) (by simp [Value.oneCell']) (by unfold maxLen; omega) (by omega) (by have := hbel.size; simp; omega) ?_); intro v' w3 hown' hg3 hnil3
         have hv3:w3.heap[w.heap.size + 1]? = some (.cells #[v] 26 (0,0)):=(hg3.block _ (by simp; omega) (row_ne' hrow hv (fun cur e=>by cases e))).trans ((Below.heap_alloc _ _ _ hBlt).trans hv)
         obtain ⟨hc3,hf3⟩:=box_cell hv3
         obtain ⟨g',cap',rfl⟩:∃ g' cap',v' = .slice (some ⟨g',0,none⟩) (pre.length + 1) cap':=by
           rcases hown'.2 with ⟨_,h0⟩ | ⟨g',cap',cur',h',_⟩
           · exact absurd h0 (by omega)
           · exact ⟨g',cap',h'⟩
         simp only [Act.put,List.setIfInBounds_toArray,List.set_cons_succ,List.set_cons_zero])
      | (rw [Oper.semAt_eq _ _ _ (fun c h=>by cases h)]; go_simp; try go_bits))
    have hg3':(W.alloc (.cells #[.int .i64 x] 3)).grownBy w3 v.ownBlock:=hg3
    have hb3:Below w.heap.size w w3:=(hbel.alloc hbel.size _).grown hg3' (by have:=hbel.size; simp; omega) (fun k e=>(hrow.lt k e).1)
    have heb3:w3.heap[w.heap.size + 1 + 1]? = some (.cells #[.int .i64 f,.int .i64 b,.int .i64 u] 138 (0,0)):=(hg3'.block _ (by simp; omega) (row_ne' hrow heb (fun cur e=>by cases e))).trans ((Below.heap_alloc _ _ _ hElt).trans heb)
    have hk3:KeepsOthers W w3:=(KeepsOthers.alloc W _).trans (KeepsOthers.of_grownBy hg3' (row_cells (hrow.alloc _)))
    refine ⟨hk3.trans (KeepsOthers.setCell _ _ _),?_,⟨⟨_,box_set _ hv3,?_⟩,?_,?_⟩⟩
    · show _ = _
      exact ((Below.heap_setCell _ _ _ _ (by simp)).trans heb3).trans heb.symm
    · have:=hown'.kept (box_grown w3 (w.heap.size + 1) (.slice (some ⟨g',0,none⟩) (pre.length + 1) cap')) (row_ne hown' hv3 (fun cur e=>by cases e))
      simpa using this
    · exact (Below.heap_setCell _ _ _ _ (by simp)).trans heb3
    · exact hb3.grown (box_grown w3 _ _) hb3.size (fun k e=>by cases e; omega)
  case done =>
    rintro D ys W hD rfl hI hK
    obtain ⟨v,hv,hrow⟩:=hI.box
    obtain ⟨hc,hf⟩:=box_cell hv
    gi_wp2
    refine ⟨by simp,.inl ⟨_,_,rfl,run_takeDeferred hK,?_⟩⟩
    refine ⟨_,results_tmp rfl _ _ _,v,rfl,?_,?_⟩
    · exact hrow.kept (grownBy_putObj' W D (.deferred none)) (row_ne hrow hK (fun cur e=>by cases e))
    · exact hI.below.grown (grownBy_putObj' W D (.deferred none)) hI.below.size (fun k e=>by cases e; omega)
  case stop =>
    rintro D c pre W _ _ h _
    exact h.elim
def dSteps:Dc (Int × Int × Int):=⟨fun v=>match v with | .agg [a,b,c]=>(match a.i,b.i,c.i with | some a,some b,some c=>some (a,b,c) | _,_,_=>none) | _=>none,fun x=>.agg [.int .i64 x.1,.int .i64 x.2.1,.int .i64 x.2.2],fun v a h=>by
  split at h
  · split at h
    · rename_i h1 h2 h3; cases h; exact .agg (.cons (.i h1) (.cons (.i h2) (.cons (.i h3) .nil)))
    · cases h
  · cases h⟩
def okSteps (x:Int × Int × Int):Prop:=(1≤x.2.1∧x.2.1≤1099511627776)∧-1099511627776≤x.1∧x.2.2≤2199023255552∧stepsK x.1 x.2.1 x.2.2 * 8≤140737488355328
def conList:Con:=resCon (d1 dSteps) okSteps fun x=>(.own 0,[.rows (.int .i64) 3 (stepsL x.1 x.2.1 x.2.2)])
theorem ints_reps {w:World} {S:Nat→Prop} {φ:Env}:∀ xs:List Int,Reps w S φ (xs.flatMap (RTy.int .i64).enc) (xs.map (Value.int .i64))
  | []=>.nil
  | _ :: xs=>.int _ _ (ints_reps xs)
theorem own_post {w w' : World} {S : Nat → Prop} {e : TypeId} {v : Value} {xs : List Int} (h : w'.ownsRow w.heap.size e 1 v xs.length (xs.map (Value.int .i64))) (hb : Below w.heap.size w w') :
    ∃ ψ,ResPost w S Env.none 0 (.own 0) [.rows (.int .i64) e xs] v w' ψ:=by
  have hone:∀ u ∈ xs.map (Value.int .i64),u.oneCell' = true:=fun u hu=>by
    obtain ⟨y,_,rfl⟩:=List.mem_map.1 hu; rfl
  have mk : ∀ s : Slot, s.alive = true → s.fits v → (∀ B, s.blk = some B → w.heap.size ≤ B ∧ B < w'.heap.size) → s.len = xs.length → v = .slice (baseOf s.blk) s.len s.cap ∨ (s.blk = none ∧ xs = []) → 
      (∀ ψ:Env,BlkRep w' S ψ s.blk s.cap s.len (.rows (.int .i64) e xs))→∃ ψ,ResPost w S Env.none 0 (.own 0) [.rows (.int .i64) e xs] v w' ψ:=by
    intro s ha hf hB hl _ hblk
    let ψ:Env:=fun id=>if id = 0 then some s else none
    have h0:ψ 0 = some s:=rfl
    refine ⟨ψ,⟨hb,fun id hid=>?_,fun id s' _ h2 h3 B hB'=>?_,fun id id' s s' B _ h2 _ h4 _ _ _ _ _ _=>?_⟩,.own ⟨s,h0,hf⟩ .nil,fun j blk hj=>?_⟩
    · have:id≠0:=by simp at hid; omega
      simp [ψ,this,Env.none]
    · have:id = 0:=by simp at h2; omega
      subst this
      rw [h0] at h3; cases h3
      exact hB B hB'
    · simp at h2 h4; omega
    · cases j with
      | succ j=>simp at hj
      | zero =>
        simp at hj
        subst hj
        obtain ⟨a,b,c,l⟩:=s
        simp only at ha
        subst ha
        exact ⟨b,c,l,h0,hblk ψ⟩
  rcases h.2 with ⟨rfl,h0⟩ | ⟨g,cap,cur,rfl,hg,hgb,hr⟩
  · have hx:xs = []:=List.eq_nil_of_length_eq_zero h0
    subst hx
    exact mk ⟨true,none,0,0⟩ rfl ⟨none,rfl⟩ (fun B hB=>by cases hB) rfl (.inr ⟨rfl,rfl⟩) fun ψ=>⟨rfl,[],⟨rfl,.inl ⟨rfl,rfl⟩⟩,.nil,fun u hu=>by cases hu⟩
  · exact mk ⟨true,some g,cap,xs.length⟩ rfl rfl (fun B hB=>by cases hB; exact ⟨hg,(Array.getElem?_eq_some_iff.1 hgb).1⟩) rfl (.inl rfl) fun ψ =>
      ⟨rfl,xs.map (Value.int .i64),⟨h.1,.inr ⟨g,cap,cur,rfl,Nat.zero_le _,hgb,hr⟩⟩,ints_reps xs,hone⟩
theorem conList_valid:ValidCon c51.P 116 conList:=by
  refine ⟨enters_of (by kernel_rfl),fun args r hr w S vals hS hv=>?_⟩
  unfold conList resCon at hr
  split at hr
  · rename_i a ha
    obtain ⟨⟨⟨h1,h2⟩,h3,h4,h5⟩,h6⟩:=hr
    cases h6
    obtain ⟨f,b,u⟩:=a
    have hv2:=((d1 dSteps).ok _ _ ha).reps hv
    obtain ⟨v,rfl,hv3⟩:=hv2.one_inv
    cases hv3 with
    | agg hr _ =>
      cases hr with
      | int _ _ hr =>
        cases hr with
        | int _ _ hr =>
          cases hr with
          | int _ _ hr =>
            cases hr.nil_inv
            refine (callsIn_wide.1 (list_in w f b u h1 h2 h3 h4 h5)).mono ?_
            rintro e w' ⟨x,rfl,k1,k2⟩
            obtain ⟨ψ,k3⟩:=own_post (S:=S) k1 k2
            exact ⟨x,ψ,rfl,k3⟩
  · exact hr.elim
noncomputable def c52:Cfg:=c51.addCon 116 conList
theorem c52_good:GoodCfg c52:=c51_good.addCon conList_valid (by kernel_rfl)
end Go.Fx
