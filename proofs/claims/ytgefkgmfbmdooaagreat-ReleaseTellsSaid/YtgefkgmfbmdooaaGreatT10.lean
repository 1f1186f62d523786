import Derived.Test.YtgefkgmfbmdooaaGreatT9
namespace Go.Fx
open Go Go.Proofs
abbrev A17l:=Fu.World × List Fu.Live
def T17l (x:A17l × Int):St:=⟨puts (J 22) [(1,.ptr 0 0),(3,.own 1),(4,.int .i64 x.2)],[(0,.cells (encW x.1.1)),(1,.rows .live 60 x.1.2)],2⟩
def s17l:List Sh:=sets (Js 22) [(1,.keep),(3,.keep),(4,.int)]
def e17l:List Sh:=sets (Js 22) [(3,.keep)]
def f17l (hs:List Nat) (ss:List Sh) (σ:St):St:=norm2 1 [.tmp 3] hs ss (ownSlot 3 .live 60 σ)
theorem weak_f17l (hs:List Nat) (ss:List Sh) (σ:St):Weak 1 σ (f17l hs ss σ):=(Weak.ownSlot 1 3 .live 60 σ).trans (Weak.norm2 1 [.tmp 3] hs ss _)
abbrev A17x:=Fu.World × List Fu.Fix
def T17x (x:A17x × Int):St:=⟨puts (J 29) [(1,.ptr 0 0),(3,.own 1),(4,.int .i64 x.2)],[(0,.cells (encW x.1.1)),(1,.rows .fix 68 x.1.2)],2⟩
def s17x:List Sh:=sets (Js 29) [(1,.keep),(3,.keep),(4,.int)]
def e17x:List Sh:=sets (Js 29) [(3,.keep)]
def f17x (hs:List Nat) (ss:List Sh) (σ:St):St:=norm2 1 [.tmp 3] hs ss (ownSlot 3 .fix 68 σ)
theorem weak_f17x (hs:List Nat) (ss:List Sh) (σ:St):Weak 1 σ (f17x hs ss σ):=(Weak.ownSlot 1 3 .fix 68 σ).trans (Weak.norm2 1 [.tmp 3] hs ss _)
def nxtG {γ:Type} (g:Fu.Task→γ) (x:Fu.World × List γ) (i:Int):Fu.World × List γ:=(x.1,x.2 ++ [g (rd .task x.1.T i)])
def okG {γ:Type} (b:Nat) (x:Fu.World × List γ) (_:Int):Prop:=(x.2.length + 1) * b≤140737488355328
theorem foldG {γ : Type} {g : Fu.Task → γ} {b : Nat} {w : Fu.World} (hl : w.T.length * b ≤ 140737488355328) (k : Nat) : ∀ (out : List γ) (i : Int), 0 ≤ i → i + k = w.T.length → out.length + k = w.T.length →
    foldI (nxtG g) k (w,out) i = (w,out ++ (w.T.drop i.toNat).map g)∧okI (nxtG g) (fun _ _=>(none:Option Unit)) (okG b) k (w,out) i:=by
  induction k with
  | zero =>
    intro out i h0 h1 h2
    rw [drop_end (by omega)]
    exact ⟨by simp [foldI],trivial⟩
  | succ k ih =>
    intro out i h0 h1 h2
    have hd:=drop_rd (r:=.task) (xs:=w.T) h0 (by omega)
    have hok:okG b (w,out) i:=by
      show (out.length + 1) * b≤140737488355328
      exact Nat.le_trans (Nat.mul_le_mul_right b (by omega)) hl
    obtain ⟨k1,k2⟩:=ih (out ++ [g (rd .task w.T i)]) (i + 1) (by omega) (by omega) (by rw [List.length_append]; simp only [List.length_cons,List.length_nil]; omega)
    refine ⟨?_,hok,fun _=>k2⟩
    unfold foldI
    refine k1.trans ?_
    rw [hd,List.map_cons,List.append_assoc]
    rfl
def E17l (x:A17l):Ex × St:=(.exit 0,⟨puts (J 22) [(3,.own 1)],[(1,.rows .live 60 x.2)],2⟩)
theorem b17l (x : A17l) (i : Int) : roundN c134 60 15 (loopAt c134.P 15 3) (f17l [0, 1] s17l) (f17l [1] e17l) (T17l (x, i)) =
    .ite (decide (i < x.1.T.length)) (.asrt (0≤i∧i < x.1.T.length) (.asrt ((x.2 ++ [liveK (rd .task x.1.T i)]).length * 136≤140737488355328) (.ret (.normal,T17l (nxtG liveK x i,IntKind.i64.wrap (i + 1)))))) (.ret (E17l x)):=by kernel_rfl
def g17l (σ:St):Option (A17l × Int) :=
  match nth σ.tmps 4,σ.heap with
  | .int .i64 i,[(_,.cells [.int .i64 a,.view .task t,.view .ape p,.int .i64 c]),(_,.rows .live _ o)]=>some ((⟨a,t,p,c⟩,o),i)
  | _,_=>none
def L17l:LoopCon:=boundF 1 (f17l [0,1] s17l) T17l g17l (fun x=>x.1.T.length) (okG 136) (nxtG liveK) E17l
theorem l17l (hs:SubOf c134.P 15 (.loop (loopAt c134.P 15 3))):SoundLoop c134 (loopAt c134.P 15 3) L17l :=
  bound_fold (C:=c134) (g:=15) (l:=3) c134_good 60 1 _ _ (weak_f17l [0,1] s17l) (weak_f17l [1] e17l) hs T17l g17l (fun x=>x.1.T.length) (okG 136) (nxtG liveK) E17l
    (fun _=>by intro h; cases h) (fun _ _=>rfl)
    (fun x i h0 hi hm hok=>.of_eq (b17l x i) (by
      unfold maxI64 at hm
      rw [wrap_fits (n:=i + 1) (by omega) (by omega)]
      exact (Tree.out_ite_true (decide_eq_true hi)).2 ⟨⟨h0,hi⟩,by rw [List.length_append]; exact hok,rfl⟩))
    (fun x i hi=>.of_eq (b17l x i) ((Tree.out_ite_false (decide_eq_false (by omega))).2 rfl))
noncomputable def c135:Cfg:=c134.addLoop 15 3 L17l
theorem c135_good:GoodCfg c135:=c134_good.addLoop (by unfold OneLoop; kernel_rfl) l17l
def lives17T (w:Fu.World):Tree (AV × List Blk) :=
  .asrt (1 = 1∧T17l ((w,[]),0) = T17l ((w,[]),0)) (.asrt (0≤(0:Int)∧(w.T.length:Int)≤maxI64∧okI (nxtG liveK) (fun _ _=>(none:Option Unit)) (okG 136) ((w.T.length:Int) - 0).toNat (w,[]) 0)
    (.ret (.own 0,[.rows .live 60 (foldI (nxtG liveK) ((w.T.length:Int) - 0).toNat (w,[]) 0).2])))
theorem fLives17 (w:Fu.World):callC c135 60 15 [.agg (encW w)] = lives17T w:=by kernel_rfl
theorem lives17T_rez {w:Fu.World} (h:smallW w):Rez (lives17T w) (.own 0,[.rows .live 60 (w.T.map liveK)]):=by
  have h:=h.1
  obtain ⟨k1,k2⟩:=foldG (g:=liveK) (b:=136) (w:=w) (by omega) ((w.T.length:Int) - 0).toNat [] 0 (Int.le_refl _) (by omega) (by simp)
  rw [show (0:Int).toNat = 0 from rfl,List.drop_zero] at k1
  refine .asrt ⟨rfl,rfl⟩ (.asrt ⟨Int.le_refl _,by unfold maxI64; omega,k2⟩ (.ret (.refl _) ?_))
  rw [k1]
  rfl
theorem conLives17_valid:ValidCon c135.P 15 conLives:=resCon_valid c135_good 60 (by kernel_rfl) fun w h=>⟨_,fLives17 w,lives17T_rez h⟩
theorem conLives17F_valid:ValidCon c135.P 15 conLivesF:=resCon_frozen conLives17_valid fun _=>⟨_,rfl,.refl _⟩
noncomputable def c136:Cfg:=c135.addQuiet 15 conLivesF
theorem c136_good:GoodCfg c136:=c135_good.addQuiet conLives17F_valid flatCon_quiet
def E17x (x:A17x):Ex × St:=(.exit 0,⟨puts (J 29) [(3,.own 1)],[(1,.rows .fix 68 x.2)],2⟩)
theorem b17x (x : A17x) (i : Int) : roundN c136 60 41 (loopAt c136.P 41 3) (f17x [0, 1] s17x) (f17x [1] e17x) (T17x (x, i)) =
    .ite (decide (i < x.1.T.length)) (.asrt (0≤i∧i < x.1.T.length) (.asrt (0≤i∧i < x.1.T.length) (.asrt ((x.2 ++ [fixK (rd .task x.1.T i)]).length * 56≤140737488355328) (.ret (.normal,T17x (nxtG fixK x i,IntKind.i64.wrap (i + 1))))))) (.ret (E17x x)):=by kernel_rfl
def g17x (σ:St):Option (A17x × Int) :=
  match nth σ.tmps 4,σ.heap with
  | .int .i64 i,[(_,.cells [.int .i64 a,.view .task t,.view .ape p,.int .i64 c]),(_,.rows .fix _ o)]=>some ((⟨a,t,p,c⟩,o),i)
  | _,_=>none
def L17x:LoopCon:=boundF 1 (f17x [0,1] s17x) T17x g17x (fun x=>x.1.T.length) (okG 56) (nxtG fixK) E17x
theorem l17x (hs:SubOf c136.P 41 (.loop (loopAt c136.P 41 3))):SoundLoop c136 (loopAt c136.P 41 3) L17x :=
  bound_fold (C:=c136) (g:=41) (l:=3) c136_good 60 1 _ _ (weak_f17x [0,1] s17x) (weak_f17x [1] e17x) hs T17x g17x (fun x=>x.1.T.length) (okG 56) (nxtG fixK) E17x
    (fun _=>by intro h; cases h) (fun _ _=>rfl)
    (fun x i h0 hi hm hok=>.of_eq (b17x x i) (by
      unfold maxI64 at hm
      rw [wrap_fits (n:=i + 1) (by omega) (by omega)]
      exact (Tree.out_ite_true (decide_eq_true hi)).2 ⟨⟨h0,hi⟩,⟨h0,hi⟩,by rw [List.length_append]; exact hok,rfl⟩))
    (fun x i hi=>.of_eq (b17x x i) ((Tree.out_ite_false (decide_eq_false (by omega))).2 rfl))
noncomputable def c137:Cfg:=c136.addLoop 41 3 L17x
theorem c137_good:GoodCfg c137:=c136_good.addLoop (by unfold OneLoop; kernel_rfl) l17x
def fixes17T (w:Fu.World):Tree (AV × List Blk) :=
  .asrt (1 = 1∧T17x ((w,[]),0) = T17x ((w,[]),0)) (.asrt (0≤(0:Int)∧(w.T.length:Int)≤maxI64∧okI (nxtG fixK) (fun _ _=>(none:Option Unit)) (okG 56) ((w.T.length:Int) - 0).toNat (w,[]) 0)
    (.ret (.own 0,[.rows .fix 68 (foldI (nxtG fixK) ((w.T.length:Int) - 0).toNat (w,[]) 0).2])))
theorem fFixes17 (w:Fu.World):callC c137 60 41 [.agg (encW w)] = fixes17T w:=by kernel_rfl
theorem fixes17T_rez {w:Fu.World} (h:smallW w):Rez (fixes17T w) (.own 0,[.rows .fix 68 (w.T.map fixK)]):=by
  have h:=h.1
  obtain ⟨k1,k2⟩:=foldG (g:=fixK) (b:=56) (w:=w) (by omega) ((w.T.length:Int) - 0).toNat [] 0 (Int.le_refl _) (by omega) (by simp)
  rw [show (0:Int).toNat = 0 from rfl,List.drop_zero] at k1
  refine .asrt ⟨rfl,rfl⟩ (.asrt ⟨Int.le_refl _,by unfold maxI64; omega,k2⟩ (.ret (.refl _) ?_))
  rw [k1]
  rfl
def conFixes17:Con:=resCon (d1 dWorld) smallW fun w=>(.own 0,[.rows .fix 68 (w.T.map fixK)])
theorem conFixes17_valid:ValidCon c137.P 41 conFixes17:=resCon_valid c137_good 60 (by kernel_rfl) fun w h=>⟨_,fFixes17 w,fixes17T_rez h⟩
def conFixes17F:Con:=flatCon (d1 dWorld) smallW fun w=>.view .fix (w.T.map fixK)
theorem conFixes17F_valid:ValidCon c137.P 41 conFixes17F:=resCon_frozen conFixes17_valid fun _=>⟨_,rfl,.refl _⟩
noncomputable def c138:Cfg:=c137.addQuiet 41 conFixes17F
theorem c138_good:GoodCfg c138:=c137_good.addQuiet conFixes17F_valid flatCon_quiet
end Go.Fx
