import Derived.Test.YtgefkgmfbmdooaaGreatC7
namespace Go.Fx
open Go Go.Proofs
abbrev AIt:=List Int × List Int
def TIt (x:AIt × Int):St:=⟨puts (J 26) [(0,.view (.int .i64) x.1.1),(1,.view (.int .i64) x.1.2),(5,.int .i64 x.2)],[],0⟩
def sIt:List Sh:=sets (Js 26) [(0,.keep),(1,.keep),(5,.int)]
def eIt:List Sh:=sets (Js 26) [(4,.keep)]
def RIt:Ex × St:=(.ret,⟨puts (J 26) [(4,.blit false)],[],0⟩)
def EIt:Ex × St:=(.exit 0,⟨J 26,[],0⟩)
theorem bIt (x : AIt) (i : Int) : roundN c96 60 11 (loopAt c96.P 11 4) (norm2 0 [] [] sIt) (outE 0 4 [] [] eIt (Js 26)) (TIt (x, i)) =
    .ite (decide (i < x.1.length)) (.asrt (0≤i∧i < x.1.length) (.asrt (0≤i∧i < x.2.length) (.ite (rd (.int .i64) x.1 i != rd (.int .i64) x.2 i) (.ret RIt) (.ret (.normal,TIt (x,IntKind.i64.wrap (i + 1))))))) (.ret EIt):=by kernel_rfl
def gIt (σ:St):Option (AIt × Int) :=
  match nth σ.tmps 0,nth σ.tmps 1,nth σ.tmps 5 with
  | .view (.int .i64) a,.view (.int .i64) b,.int .i64 i=>some ((a,b),i)
  | _,_,_=>none
def LxIt (x:AIt × Int):Tree (Ex × St):=.asrt (0≤x.2∧x.2≤x.1.1.length∧x.1.1.length = x.1.2.length∧(x.1.1.length:Int) < 17592186044416) (.ite (decide (x.1.1.drop x.2.toNat = x.1.2.drop x.2.toNat)) (.ret EIt) (.ret RIt))
def LIt:LoopCon:=entry 0 (norm2 0 [] [] sIt) TIt gIt LxIt
theorem lIt (hs:SubOf c96.P 11 (.loop (loopAt c96.P 11 4))):SoundLoop c96 (loopAt c96.P 11 4) LIt:=by
  refine loop_rule3 (C:=c96) (g:=11) (l:=4) c96_good 60 0 _ _ (Weak.norm2 0 [] [] sIt) (weak_outE 0 4 [] [] eIt (Js 26)) hs TIt LxIt (fun x=>(x.1.1.length - x.2).toNat) (fun x q h=>?_) entry_out
  obtain ⟨⟨a,b⟩,i⟩:=x
  obtain ⟨⟨h0,h1,h2,h3⟩,h⟩:=Tree.out_asrt.1 h
  simp only at h0 h1 h2 h3 h
  refine .of_eq (bIt (a,b) i) ?_
  rw [wrap_fits (n:=i + 1) (by omega) (by omega)]
  refine Tree.wp_ite.2 ⟨fun hi=>?_,fun hi=>?_⟩
  · have hi:i < (a.length:Int):=of_decide_eq_true hi
    rw [drop_rd (r:=.int .i64) h0 hi,drop_rd (r:=.int .i64) (xs:=b) h0 (by omega)] at h
    have h:Tree.Out (.ite (decide (rd (.int .i64) a i :: a.drop (i + 1).toNat = rd (.int .i64) b i :: b.drop (i + 1).toNat)) (.ret EIt) (.ret RIt)) q:=h
    rw [cons_eq_dec] at h
    refine ⟨⟨h0,hi⟩,⟨h0,by show i < (b.length:Int); omega⟩,Tree.wp_ite.2 ⟨fun hb=>?_,fun hb=>?_⟩⟩
    · have hb:decide (rd (.int .i64) a i = rd (.int .i64) b i) = false:=by simpa using hb
      rw [hb,Bool.false_and] at h
      exact Rnd.ret h
    · have hb:decide (rd (.int .i64) a i = rd (.int .i64) b i) = true:=by simpa using hb
      rw [hb,Bool.true_and] at h
      exact Rnd.go (m:=fun x:AIt × Int=>(x.1.1.length - x.2).toNat) (x:=((a,b),i)) ((a,b),i + 1) (by simp only; omega) (Tree.out_asrt.2 ⟨⟨by simp only; omega,by simp only; omega,h2,h3⟩,h⟩)
  · have hi:¬ i < (a.length:Int):=of_decide_eq_false hi
    rw [drop_end (by omega),drop_end (xs:=b) (by omega)] at h
    exact Rnd.out h
noncomputable def c97:Cfg:=c96.addLoop 11 4 LIt
theorem c97_good:GoodCfg c97:=c96_good.addLoop (by unfold OneLoop; kernel_rfl) lIt
def itT (a b:List Int):Tree (AV × List Blk):=.ite ((a.length:Int) != b.length) noB (.asrt (0 = 0∧TIt ((a,b),0) = TIt ((a,b),0)) (.asrt (0≤(0:Int)∧(0:Int)≤a.length∧a.length = b.length∧(a.length:Int) < 17592186044416) (.ite (decide (a.drop (0:Int).toNat = b.drop (0:Int).toNat)) (.ret (.blit true,[])) noB)))
theorem fInts (a b:List Int):callC c97 60 11 [.view (.int .i64) a,.view (.int .i64) b] = itT a b:=by kernel_rfl
def conInts:Con:=flatCon (d2 (dView (.int .i64)) (dView (.int .i64))) (fun x=>(x.1.length:Int) < 17592186044416) fun x=>.bool (decide ((x.1:List Int) = x.2))
theorem itT_rez {a b:List Int} (h:(a.length:Int) < 17592186044416):Rez (itT a b) (.bool (decide (a = b)),[]):=by
  refine ite_rez (fun hl=>noB_rez ?_) fun hl=>.asrt ⟨rfl,rfl⟩ (.asrt ⟨Int.le_refl _,by omega,?_,h⟩ ?_)
  · refine decide_eq_false fun e=>?_
    subst e
    simp at hl
  · have:((a.length:Int) = b.length):=by simpa using hl
    omega
  · rw [show (0:Int).toNat = 0 from rfl,List.drop_zero,List.drop_zero]
    cases hd:decide (a = b) with
    | true=>exact .itet rfl (.ret (.blit rfl) rfl)
    | false=>exact .itee rfl (noB_rez rfl)
theorem conInts_valid:ValidCon c97.P 11 conInts:=flatCon_valid c97_good 60 (by kernel_rfl) fun x h=>⟨_,fInts x.1 x.2,itT_rez h⟩
noncomputable def c98:Cfg:=c97.addQuiet 11 conInts
theorem c98_good:GoodCfg c98:=c97_good.addQuiet conInts_valid flatCon_quiet
def conTrue:Con
  | []=>.ret (.blit true,[])
  | _=>.fail
theorem conTrue_quiet:noBlks conTrue:=by
  intro args r h
  unfold conTrue at h
  split at h
  · cases h; rfl
  · exact h.elim
theorem conTrue_valid {C:Cfg} (G:GoodCfg C) (n:Nat) {g:Nat} (he:entersB C.P g = true) (h:∃ t,callC C n g [] = t∧Rez t (.blit true,[])):ValidCon C.P g conTrue:=by
  obtain ⟨t,h1,h2⟩:=h
  refine con_of (C:=C) (n:=n) G he fun args r hr=>?_
  unfold conTrue at hr
  split at hr
  · cases hr
    obtain ⟨v,k1,k2⟩:=h2
    exact ⟨[],v,.nil,k1,.of_eq h1 k2⟩
  · exact hr.elim
def w17:Fu.World:=⟨0,[newKR 1 ⟨2,10,20,1,2,3⟩ 10 0],[],-1⟩
def b17:Fu.World × List Int:=beginW w17 [1]
def at17 (p:Prop) (t:Tree (AV × List Blk)):Tree (AV × List Blk):=.asrt p (.asrt p t)
def up17:Tree (AV × List Blk):=.asrt (smallW w17) (.asrt (smallW w17) (.ite true (.asrt (smallW w17) (.ite true (.asrt ((b17.2.length:Int) < 17592186044416) (.ite true (.ite true (at17 (0≤(0:Int)∧(0:Int) < b17.1.T.length) (.ite true (at17 (0≤(0:Int)∧(0:Int) < b17.1.T.length) (.ret (.bool true,[]))) noB)) noB) noB)) noB)) noB))
theorem fAwake17:callC c98 90 4 [] = up17:=by kernel_rfl
theorem conAwake17_valid:ValidCon c98.P 4 conTrue:=conTrue_valid c98_good 90 (by kernel_rfl) ⟨_,fAwake17,by
  have hw:smallW w17:=⟨by decide,by decide⟩
  have h1:((b17.2.length:Int) < 17592186044416):=by decide +kernel
  have h2:0≤(0:Int)∧(0:Int) < b17.1.T.length:=by decide +kernel
  exact .asrt hw (.asrt hw (.itet rfl (.asrt hw (.itet rfl (.asrt h1 (.itet rfl (.itet rfl (.asrt h2 (.asrt h2 (.itet rfl (.asrt h2 (.asrt h2 (.ret (.boolLit rfl) rfl)))))))))))))⟩
noncomputable def c99:Cfg:=c98.addQuiet 4 conTrue
theorem c99_good:GoodCfg c99:=c98_good.addQuiet conAwake17_valid conTrue_quiet
end Go.Fx
