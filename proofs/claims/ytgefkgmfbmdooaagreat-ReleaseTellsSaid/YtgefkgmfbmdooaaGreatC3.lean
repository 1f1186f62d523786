import Derived.Test.YtgefkgmfbmdooaaGreatC2
import Derived.Test.YtgefkgmfbmdooaaGreatFx5
namespace Go.Fx
open Go Go.Proofs
theorem oInt:Opens Tryz.prog 3 fun zs=>∃ n,zs = [.int .i64 n]∧wf64 n:=(Opens.int Tryz.underlying3).mono fun _ ⟨n,h1,h2⟩=>⟨n,h1,bounds_i64 h2⟩
theorem oBool:Opens Tryz.prog 4 fun zs=>∃ b,zs = [.bool b]:=Opens.bool Tryz.underlying4
theorem oInts:Opens Tryz.prog 26 fun zs=>∃ xs:List Int,zs = [.view (.int .i64) xs]∧(xs.length:Int) < 17592186044416∧∀ x ∈ xs,wf64 x :=
  (Opens.slice (.int .i64) (ok:=fun n:Int=>wf64 n) Tryz.underlying26 oInt (fun zs ⟨n,h,h'⟩=>⟨n,h,h'⟩) (by kernel_rfl) (by decide)).mono fun zs ⟨xs,h1,h2,h3⟩=>⟨xs,h1,by
    have e:Tryz.prog.bytesOf 3 = 8:=by kernel_rfl
    rw [e] at h2
    unfold reachBytes at h2
    omega,h3⟩
theorem oSpec:Opens Tryz.prog 42 fun zs=>∃ s:Fu.Spec,zs = encSpec s :=
  (Opens.struct Tryz.underlying42 (.cons oInt (by kernel_rfl) (.cons oInt (by kernel_rfl) (.cons oInt (by kernel_rfl) (.cons oInt (by kernel_rfl) (.cons oInt (by kernel_rfl) (.cons oInt (by kernel_rfl) (.nil _))))))) (by kernel_rfl)).mono fun zs h=>by
    obtain ⟨_,_,rfl,⟨a,rfl,_⟩,_,_,rfl,⟨b,rfl,_⟩,_,_,rfl,⟨c,rfl,_⟩,_,_,rfl,⟨d,rfl,_⟩,_,_,rfl,⟨e,rfl,_⟩,_,_,rfl,⟨f,rfl,_⟩,rfl⟩:=h
    exact ⟨⟨a,b,c,d,e,f⟩,rfl⟩
theorem oJob:Opens Tryz.prog 40 fun zs=>∃ j:Fu.Job,zs = encJob j :=
  (Opens.struct Tryz.underlying40 (.cons oBool (by kernel_rfl) (.cons oInt (by kernel_rfl) (.cons oInt (by kernel_rfl) (.cons oInt (by kernel_rfl) (.cons oBool (by kernel_rfl) (.cons oInt (by kernel_rfl) (.cons oInt (by kernel_rfl) (.cons oInt (by kernel_rfl) (.nil _))))))))) (by kernel_rfl)).mono fun zs h=>by
    obtain ⟨_,_,rfl,⟨a,rfl⟩,_,_,rfl,⟨b,rfl,_⟩,_,_,rfl,⟨c,rfl,_⟩,_,_,rfl,⟨d,rfl,_⟩,_,_,rfl,⟨e,rfl⟩,_,_,rfl,⟨f,rfl,_⟩,_,_,rfl,⟨g,rfl,_⟩,_,_,rfl,⟨h,rfl,_⟩,rfl⟩:=h
    exact ⟨⟨a,b,c,d,e,f,g,h⟩,rfl⟩
end Go.Fx
namespace Go.Fx
open Go
def leftM (j:Fu.Job):Int:=bif j.On && j.Mand then min j.C j.D - j.Ran else 0
def wk (D:Int) (x:Fu.Live):Int:=bif decide (x.J.Due≤D) then leftM x.J else 0
def W (l:List Fu.Live) (D:Int):Int:=(l.map (wk D)).sum
end Go.Fx
namespace Go.Fx
open Go
abbrev Stat:=Fu.Spec × Int × Int × Int
def statOf (x:Fu.Live):Stat:=(x.S,x.P,x.At,x.N)
def oldW (D t:Int) (x:Fu.Live):Int:=bif decide (x.At≤t) then 0 else wk D x
def AW (l:List Fu.Live) (t D:Int):Int:=(l.map (oldW D t)).sum
end Go.Fx
namespace Go.Fx
open Go
def ahead (s:Stat):Int:=s.1.C * cdiv (s.2.2.2 * s.1.M) s.1.K
def sumI (f:Stat→Int) (l:List Stat):Int:=(l.map f).sum
def Come (t:Int) (s s':Stat):Prop:=s'.1 = s.1∧s'.2.1 = s.2.1∧s'.2.2.2 * s.2.1 - s'.2.2.1 = s.2.2.2 * s.2.1 - s.2.2.1∧(s' = s∨(s.2.2.2 < s'.2.2.2∧s'.2.2.1≤t - 1 + s.2.1))
structure Stand (now r0 D:Int) (l0:List Stat) (b:Int) (l:List Fu.Live) (t:Int):Prop where
  all:AllI b l t
  come:∃ G:Stat→Stat,l.map statOf = l0.map G∧∀ s ∈ l0,Come t s (G s)
  left:W l D + (t - now - 1)≤r0 + (sumI ahead (l.map statOf) - sumI ahead l0)
  goes:AW l t D = W l D
end Go.Fx
namespace Go.Fx
open Go Go.Proofs
theorem fLimits:callC c43 60 134 [] = .ret (.agg [.lit .i64 0,.lit .i64 1099511627776],[]):=by kernel_rfl
def conLimits:Con:=plainCon Ds.none fun _=>.agg [.lit .i64 0,.lit .i64 1099511627776]
theorem conLimits_valid:ValidCon c43.P 134 conLimits:=plainCon_valid c43_good 60 (by kernel_rfl) fun _=>⟨_,fLimits,.ret (.refl _) rfl⟩
noncomputable def c44:Cfg:=c43.addQuiet 134 conLimits
theorem c44_good:GoodCfg c44:=c43_good.addQuiet conLimits_valid plainCon_quiet
def litAt (d:Nat) (σ:St):Bool:=match nth σ.tmps d with | .lit _ _=>true | .blit _=>true | _=>false
def outE (n0 d:Nat) (h1 h2:List Nat) (s1 s2:List Sh) (σ:St):St:=bif litAt d σ then norm2 n0 [] h1 s1 σ else norm2 n0 [] h2 s2 σ
theorem weak_outE (n0 d:Nat) (h1 h2:List Nat) (s1 s2:List Sh) (σ:St):Weak n0 σ (outE n0 d h1 h2 s1 s2 σ):=by
  unfold outE
  cases litAt d σ with
  | true=>exact Weak.norm2 n0 [] h1 s1 σ
  | false=>exact Weak.norm2 n0 [] h2 s2 σ
def outU (x:Int):Bool:=decide (x < 0) || decide (x > 1099511627776)
abbrev AU1:=List Int × Int × List Int × Int
def TU1 (x:AU1 × Int):St:=⟨puts (J 48) [(4,.ptr 0 0),(5,.int .i64 x.1.2.1),(6,.view (.int .i64) x.1.2.2.1),(7,.int .i64 x.1.2.2.2),(24,.view (.int .i64) x.1.1),(25,.int .i64 x.1.1.length),(26,.int .i64 x.2)],[(0,.cells [.lit .i64 0,.lit .i64 1099511627776])],1⟩
def sU1:List Sh:=sets (Js 48) [(4,.keep),(5,.int),(6,.keep),(7,.keep),(24,.keep),(25,.int),(26,.int)]
def xU1:List Sh:=sets (Js 48) [(4,.keep),(5,.int),(6,.keep),(7,.keep)]
def rU1:List Sh:=sets (Js 48) [(2,.keep),(3,.keep)]
def eU1 (σ:St):St:=outE 1 2 [] [0] rU1 xU1 σ
def RU1:Ex × St:=(.ret,⟨puts (J 48) [(2,.lit .i64 0),(3,.blit false)],[],1⟩)
def EU1 (x:AU1):Ex × St:=(.exit 2,⟨puts (J 48) [(4,.ptr 0 0),(5,.int .i64 x.2.1),(6,.view (.int .i64) x.2.2.1),(7,.int .i64 x.2.2.2)],[(0,.cells [.lit .i64 0,.lit .i64 1099511627776])],1⟩)
theorem bU1 (x : AU1) (i : Int) : roundN c44 60 115 (loopAt c44.P 115 8) (norm2 1 [] [0] sU1) eU1 (TU1 (x, i)) =
    .ite (decide (i < x.1.length)) (.asrt (0≤i∧i < x.1.length) (.ite (outU (rd (.int .i64) x.1 i)) (.ret RU1) (.ret (.normal,TU1 ((x.1,IntKind.i64.wrap (x.2.1 + rd (.int .i64) x.1 i),x.2.2),IntKind.i64.wrap (i + 1)))))) (.ret (EU1 x)):=by kernel_rfl
def gU1 (σ:St):Option (AU1 × Int) :=
  match nth σ.tmps 24,nth σ.tmps 5,nth σ.tmps 6,nth σ.tmps 7,nth σ.tmps 26 with
  | .view (.int .i64) xs,.int .i64 n,.view (.int .i64) rest,.int .i64 k,.int .i64 i=>some ((xs,n,rest,k),i)
  | _,_,_,_,_=>none
def nxtU1 (x:AU1) (i:Int):AU1:=(x.1,x.2.1 + rd (.int .i64) x.1 i,x.2.2)
def brkU1 (x:AU1) (i:Int):Option Unit:=bif outU (rd (.int .i64) x.1 i) then some () else none
def okU1 (x:AU1) (_:Int):Prop:=-1152921504606846976≤x.2.1∧x.2.1≤1152921504606846976
def LU1:LoopCon:=boundB 1 (norm2 1 [] [0] sU1) TU1 gU1 (fun x=>x.1.length) okU1 nxtU1 brkU1 () (fun _=>RU1) EU1
theorem lU1 (hs:SubOf c44.P 115 (.loop (loopAt c44.P 115 8))):SoundLoop c44 (loopAt c44.P 115 8) LU1 :=
  bound_loop (C:=c44) (g:=115) (l:=8) c44_good 60 1 _ _ (Weak.norm2 1 [] [0] sU1) (weak_outE 1 2 [] [0] rU1 xU1) hs TU1 gU1 (fun x=>x.1.length) okU1 nxtU1 brkU1 () (fun _=>RU1) EU1
    (fun _=>by intro h; cases h) (fun _=>by intro h; cases h) (fun _ _=>rfl)
    (fun x i h0 hi hm hok=>.of_eq (bU1 x i) (by
      unfold maxI64 at hm
      obtain ⟨h1,h2⟩:=hok
      rw [wrap_fits (n:=i + 1) (by omega) (by omega)]
      refine (Tree.out_ite_true (decide_eq_true hi)).2 ⟨⟨h0,hi⟩,?_⟩
      unfold brkU1
      cases h:outU (rd (.int .i64) x.1 i) with
      | true=>exact (Tree.out_ite_true rfl).2 rfl
      | false =>
        unfold outU at h
        simp only [Bool.or_eq_false_iff,decide_eq_false_iff_not] at h
        rw [wrap_fits (by omega) (by omega)]
        exact (Tree.out_ite_false rfl).2 rfl))
    (fun x i hi=>.of_eq (bU1 x i) ((Tree.out_ite_false (decide_eq_false (by omega))).2 rfl))
noncomputable def c45:Cfg:=c44.addLoop 115 8 LU1
theorem c45_good:GoodCfg c45:=c44_good.addLoop (by unfold OneLoop; kernel_rfl) lU1
def TU2 (x:List Int × Int):St:=⟨puts (J 48) [(4,.ptr 0 0),(5,.int .i64 x.2),(6,.view (.int .i64) x.1)],[(0,.cells [.lit .i64 0,.lit .i64 1099511627776])],1⟩
def sU2:List Sh:=sets (Js 48) [(4,.keep),(5,.int),(6,.keep)]
def xU2:List Sh:=sets (Js 48) [(5,.int)]
def eU2 (σ:St):St:=outE 1 2 [] [] rU1 xU2 σ
def EU2 (n:Int):Ex × St:=(.exit 0,⟨puts (J 48) [(5,.int .i64 n)],[],1⟩)
def minL (l:List Int):Int:=minI 4 l.length
def cutU (l:List Int):List Int:=(l.take (minL l).toNat).drop (0:Int).toNat
def inU (l:List Int) (n:Int):AU1:=(cutU l,n,l,minL l)
def endU (l:List Int) (n:Int):AU1:=foldI nxtU1 (((cutU l).length:Int) - 0).toNat (inU l n) 0
theorem bU2 (l : List Int) (n : Int) : roundN c45 60 115 (loopAt c45.P 115 5) (norm2 1 [] [0] sU2) eU2 (TU2 (l, n)) =
    .ite (decide ((l.length:Int) > 0)) (.asrt (0≤(0:Int)∧(0:Int)≤minL l∧minL l≤minL l∧minL l≤l.length) (.asrt (1 = 1∧TU1 (inU l n,0) = TU1 (inU l n,0)) (.asrt (0≤(0:Int)∧((cutU l).length:Int)≤maxI64∧okI nxtU1 brkU1 okU1 (((cutU l).length:Int) - 0).toNat (inU l n) 0)
      (optT () (brkI nxtU1 brkU1 (((cutU l).length:Int) - 0).toNat (inU l n) 0) (fun _=>.ret RU1)
        (.asrt (0≤(endU l n).2.2.2∧(endU l n).2.2.2≤((endU l n).2.2.1.length:Int)∧((endU l n).2.2.1.length:Int)≤((endU l n).2.2.1.length:Int))
          (.ret (.normal,TU2 (((endU l n).2.2.1.take ((endU l n).2.2.1.length:Int).toNat).drop (endU l n).2.2.2.toNat,(endU l n).2.1)))))))) (.ret (EU2 n)):=by kernel_rfl
theorem foldU1 {xs : List Int} {r : List Int × Int} (k : Nat) : ∀ (acc i : Int), 0 ≤ i → i + k = xs.length → 0 ≤ acc → acc + k * 1099511627776 ≤ 1152921504606846976 →
    okI nxtU1 brkU1 okU1 k (xs,acc,r) i∧(brkI nxtU1 brkU1 k (xs,acc,r) i).isSome = (xs.drop i.toNat).any outU∧((xs.drop i.toNat).any outU = false→foldI nxtU1 k (xs,acc,r) i = (xs,acc + (xs.drop i.toNat).sum,r)):=by
  induction k with
  | zero =>
    intro acc i h0 h1 h2 h3
    rw [drop_end (by omega)]
    exact ⟨trivial,rfl,fun _=>by simp [foldI]⟩
  | succ k ih =>
    intro acc i h0 h1 h2 h3
    have hd:=drop_rd (r:=.int .i64) (xs:=xs) h0 (by omega)
    have hok:okU1 (xs,acc,r) i:=⟨by show -1152921504606846976≤acc; omega,by show acc≤1152921504606846976; omega⟩
    rw [hd,List.any_cons]
    cases ho:outU (rd (.int .i64) xs i) with
    | true =>
      have e:brkU1 (xs,acc,r) i = some ():=by unfold brkU1; simp only; rw [ho]; rfl
      refine ⟨⟨hok,fun hn=>by rw [e] at hn; cases hn⟩,?_,fun h=>by simp at h⟩
      unfold brkI
      rw [e]
      rfl
    | false =>
      have e:brkU1 (xs,acc,r) i = none:=by unfold brkU1; simp only; rw [ho]; rfl
      have ho':=ho
      unfold outU at ho'
      simp only [Bool.or_eq_false_iff,decide_eq_false_iff_not] at ho'
      obtain ⟨k1,k2,k3⟩:=ih (acc + rd (.int .i64) xs i) (i + 1) (by omega) (by omega) (by omega) (by omega)
      refine ⟨⟨hok,fun _=>k1⟩,?_,fun h=>?_⟩
      · unfold brkI
        rw [e]
        exact k2
      · rw [Bool.false_or] at h
        unfold foldI
        refine (k3 h).trans ?_
        rw [List.sum_cons,Int.add_assoc]
def okU2 (l:List Int) (n:Int):Prop:=l.length≤1000∧0≤n∧n + l.length * 1099511627776≤1152921504606846976
def LxU2 (x:List Int × Int):Tree (Ex × St):=.asrt (okU2 x.1 x.2) (.ite (x.1.any outU) (.ret RU1) (.ret (EU2 (x.2 + x.1.sum))))
def gU2 (σ:St):Option (List Int × Int) :=
  match nth σ.tmps 5,nth σ.tmps 6 with
  | .int .i64 n,.view (.int .i64) l=>some (l,n)
  | _,_=>none
def LU2:LoopCon:=entry 1 (norm2 1 [] [0] sU2) TU2 gU2 LxU2
theorem cut_res {l:List Int} (h:l.length≤1000):cutU l = l.take (minL l).toNat∧(l.take (l.length:Int).toNat).drop (minL l).toNat = l.drop (minL l).toNat:=by
  unfold cutU
  rw [show (0:Int).toNat = 0 from rfl,List.drop_zero,show (l.length:Int).toNat = l.length by omega,List.take_length]
  exact ⟨rfl,rfl⟩
theorem sumU {l:List Int} (h:l.any outU = false):0≤l.sum∧l.sum≤l.length * 1099511627776:=by
  induction l with
  | nil=>simp
  | cons x l ih =>
    rw [List.any_cons,Bool.or_eq_false_iff] at h
    have h1:=ih h.2
    have h2:=h.1
    unfold outU at h2
    simp only [Bool.or_eq_false_iff,decide_eq_false_iff_not] at h2
    rw [List.sum_cons,List.length_cons]
    omega
theorem lU2 (hs:SubOf c45.P 115 (.loop (loopAt c45.P 115 5))):SoundLoop c45 (loopAt c45.P 115 5) LU2:=by
  refine loop_rule3 (C:=c45) (g:=115) (l:=5) c45_good 60 1 _ _ (Weak.norm2 1 [] [0] sU2) (weak_outE 1 2 [] [] rU1 xU2) hs TU2 LxU2 (fun x=>x.1.length) (fun x q h=>?_) entry_out
  obtain ⟨l,n⟩:=x
  obtain ⟨⟨h1,h2,h3⟩,h⟩:=Tree.out_asrt.1 h
  simp only at h1 h2 h3 h
  refine .of_eq (bU2 l n) ?_
  obtain ⟨e1,e2⟩:=cut_res h1
  rcases Nat.eq_zero_or_pos l.length with hz | hz
  · have hl:l = []:=List.eq_nil_of_length_eq_zero hz
    subst hl
    refine Tree.wp_ite.2 ⟨fun hn=>by simp at hn,fun _=>?_⟩
    have h':=(Tree.out_ite_false (c:=([]:List Int).any outU) rfl).1 h
    have h'':EU2 (n + ([]:List Int).sum) = q:=h'
    rw [show n + ([]:List Int).sum = n by simp] at h''
    exact Rnd.out h''
  · have hm:minL l = 4∧4≤l.length∨minL l = l.length∧l.length≤4:=by unfold minL minI; split <;> omega
    have hc:(cutU l).length = (minL l).toNat:=by rw [e1,List.length_take]; omega
    have hlen:(cutU l).length≤l.length:=by omega
    have hb1:n + ((((cutU l).length:Int) - 0).toNat:Int) * 1099511627776≤1152921504606846976:=by
      generalize (cutU l).length = c at hlen
      generalize l.length = a at hlen h3
      have:(((c:Int) - 0).toNat:Int) = c:=by omega
      rw [this]
      omega
    obtain ⟨k1,k2,k3⟩:=foldU1 (xs:=cutU l) (r:=(l,minL l)) (((cutU l).length:Int) - 0).toNat n 0 (Int.le_refl _) (by omega) h2 hb1
    rw [show (0:Int).toNat = 0 from rfl,List.drop_zero] at k2 k3
    have hany:l.any outU = ((cutU l).any outU || (l.drop (minL l).toNat).any outU):=by
      rw [e1,← List.any_append,List.take_append_drop]
    have hsum:l.sum = (cutU l).sum + (l.drop (minL l).toNat).sum:=by
      rw [e1,← List.sum_append,List.take_append_drop]
    refine Tree.wp_ite.2 ⟨fun _=>⟨⟨by omega,by omega,by omega,by omega⟩,⟨rfl,rfl⟩,⟨Int.le_refl _,by unfold maxI64; omega,k1⟩,?_⟩,fun hn=>by have:=of_decide_eq_false hn; omega⟩
    cases hb:(cutU l).any outU with
    | true =>
      rw [hb] at k2
      rw [hany,hb,Bool.true_or] at h
      have h':=(Tree.out_ite_true rfl).1 h
      cases hk:brkI nxtU1 brkU1 (((cutU l).length:Int) - 0).toNat (inU l n) 0 with
      | none=>rw [show brkI nxtU1 brkU1 (((cutU l).length:Int) - 0).toNat (cutU l,n,l,minL l) 0 = none from hk] at k2; cases k2
      | some b=>exact Tree.wp_ite.2 ⟨fun _=>Rnd.ret h',fun hn=>by cases hn⟩
    | false =>
      rw [hb] at k2
      have hk:brkI nxtU1 brkU1 (((cutU l).length:Int) - 0).toNat (inU l n) 0 = none:=by
        cases hk:brkI nxtU1 brkU1 (((cutU l).length:Int) - 0).toNat (inU l n) 0 with
        | none=>rfl
        | some b=>rw [show brkI nxtU1 brkU1 (((cutU l).length:Int) - 0).toNat (cutU l,n,l,minL l) 0 = some b from hk] at k2; cases k2
      have hf:endU l n = (cutU l,n + (cutU l).sum,l,minL l):=k3 hb
      rw [hk,hf]
      refine Tree.wp_ite.2 ⟨fun hn=>(by cases hn),fun _=>⟨⟨by simp only; omega,by simp only; omega,Int.le_refl _⟩,?_⟩⟩
      rw [e2]
      have hs1:=sumU hb
      have hl2:(l.drop (minL l).toNat).length + (cutU l).length = l.length:=by rw [List.length_drop]; omega
      refine Rnd.go (m:=fun x:List Int × Int=>x.1.length) (x:=(l,n)) (l.drop (minL l).toNat,n + (cutU l).sum) (by simp only; omega) ?_
      rw [hany,hb,Bool.false_or,hsum,← Int.add_assoc] at h
      refine Tree.out_asrt.2 ⟨⟨by simp only; omega,by simp only; omega,?_⟩,h⟩
      simp only
      generalize (l.drop (minL l).toNat).length = a at hl2 ⊢
      generalize (cutU l).length = c at hl2 hs1
      generalize l.length = d at hl2 h3
      omega
noncomputable def c46:Cfg:=c45.addLoop 115 5 LU2
theorem c46_good:GoodCfg c46:=c45_good.addLoop (by unfold OneLoop; kernel_rfl) lU2
end Go.Fx
namespace Go.Fx
open Go Go.Proofs
def sumV (l:List Int):Int × Bool:=bif decide ((l.length:Int) > 1000) || l.any outU then (0,false) else (l.sum,true)
def sumT (l:List Int):Tree (AV × List Blk) :=
  .ite (decide ((l.length:Int) > 1000)) (.ret (.tup [.lit .i64 0,.blit false],[])) (.asrt (1 = 1∧TU2 (l,0) = TU2 (l,0)) (.asrt (okU2 l 0) (.ite (l.any outU) (.ret (.tup [.lit .i64 0,.blit false],[])) (.ret (.tup [.int .i64 (0 + l.sum),.blit true],[])))))
theorem fSumU (l:List Int):callC c46 60 115 [.view (.int .i64) l] = sumT l:=by kernel_rfl
theorem sumT_rez (l:List Int):Rez (sumT l) (.tup [.int .i64 (sumV l).1,.bool (sumV l).2],[]):=by
  unfold sumT sumV
  cases h1:decide ((l.length:Int) > 1000) with
  | true=>exact .itet rfl (.ret (.tup (.cons (.lit rfl) (.cons (.blit rfl) .nil))) rfl)
  | false =>
    have h1:=of_decide_eq_false h1
    refine .itee rfl (.asrt ⟨rfl,rfl⟩ (.asrt ⟨by omega,Int.le_refl _,by omega⟩ ?_))
    cases h2:l.any outU with
    | true=>exact .itet rfl (.ret (.tup (.cons (.lit rfl) (.cons (.blit rfl) .nil))) rfl)
    | false=>exact .itee rfl (.ret (.tup (.cons (.eq (by rw [Int.zero_add]; rfl)) (.cons (.blit rfl) .nil))) rfl)
def conSumU:Con:=plainCon (d1 (dView (.int .i64))) fun l=>.tup [.int .i64 (sumV l).1,.bool (sumV l).2]
theorem conSumU_valid:ValidCon c46.P 115 conSumU:=plainCon_valid c46_good 60 (by kernel_rfl) fun l=>⟨_,fSumU l,sumT_rez l⟩
noncomputable def c47:Cfg:=c46.addQuiet 115 conSumU
theorem c47_good:GoodCfg c47:=c46_good.addQuiet conSumU_valid plainCon_quiet
def fitsV (l:List Int):Bool:=(sumV l).2 && decide ((sumV l).1≤983040)
theorem fFits (l:List Int):callC c47 60 88 [.view (.int .i64) l] = .ret (.bool (fitsV l),[]):=by kernel_rfl
def conFits:Con:=plainCon (d1 (dView (.int .i64))) fun l=>.bool (fitsV l)
theorem conFits_valid:ValidCon c47.P 88 conFits:=plainCon_valid c47_good 60 (by kernel_rfl) fun l=>⟨_,fFits l,.ret (.refl _) rfl⟩
noncomputable def c48:Cfg:=c47.addQuiet 88 conFits
theorem c48_good:GoodCfg c48:=c47_good.addQuiet conFits_valid plainCon_quiet
end Go.Fx
namespace Go.Fx
open Go Go.Proofs
def dFix:Dc Fu.Fix:=dRow .fix
def mayF (x:Fu.Fix):Bool:=decide (unitsV x.S x.P > 0)
theorem fMayF (x:Fu.Fix):callC c48 60 86 [.agg (RTy.fix.enc x)] = .ret (.bool (mayF x),[]):=by kernel_rfl
theorem mayF_C {x:Fu.Fix} (h:mayF x = true):perOK x.S x.P = true∧0≤x.S.C∧x.S.C≤6:=by
  have h1:=of_decide_eq_true h
  cases hp:perOK x.S x.P with
  | false=>rw [unitsV_zero.2 hp] at h1; omega
  | true =>
    have:=(perOK_iff.1 hp).1.1
    exact ⟨rfl,by omega,by omega⟩
def conMayF:Con:=plainCon (d1 dFix) fun x=>.bool (mayF x)
theorem conMayF_valid:ValidCon c48.P 86 conMayF:=plainCon_valid c48_good 60 (by kernel_rfl) fun x=>⟨_,fMayF x,.ret (.refl _) rfl⟩
noncomputable def c49:Cfg:=c48.addQuiet 86 conMayF
theorem c49_good:GoodCfg c49:=c48_good.addQuiet conMayF_valid plainCon_quiet
abbrev AM:=List Fu.Fix × List Int
def TM (x:AM × Int):St:=⟨puts (J 31) [(0,.view .fix x.1.1),(3,.own 0),(6,.view .fix x.1.1),(7,.int .i64 x.1.1.length),(8,.int .i64 x.2)],[(0,.rows (.int .i64) 3 x.1.2)],1⟩
def sM:List Sh:=sets (Js 31) [(0,.keep),(3,.keep),(6,.keep),(7,.int),(8,.int)]
def xM:List Sh:=sets (Js 31) [(0,.keep),(3,.keep)]
def rM:List Sh:=sets (Js 31) [(2,.keep)]
def fM1 (σ:St):St:=norm2 0 [.tmp 3] [0] sM (ownSlot 3 (.int .i64) 3 σ)
def eM1 (σ:St):St:=bif litAt 2 σ then norm2 0 [] [] rM σ else norm2 0 [.tmp 3] [0] xM (ownSlot 3 (.int .i64) 3 σ)
theorem weak_fM1 (σ:St):Weak 0 σ (fM1 σ):=(Weak.ownSlot 0 3 (.int .i64) 3 σ).trans (Weak.norm2 0 [.tmp 3] [0] sM _)
theorem weak_eM1 (σ:St):Weak 0 σ (eM1 σ):=by
  unfold eM1
  cases litAt 2 σ with
  | true=>exact Weak.norm2 0 [] [] rM σ
  | false=>exact (Weak.ownSlot 0 3 (.int .i64) 3 σ).trans (Weak.norm2 0 [.tmp 3] [0] xM _)
def RM:Ex × St:=(.ret,(⟨puts (J 31) [(2,.blit false)],[],0⟩:St))
def EM (x:AM):Ex × St:=(.exit 0,⟨puts (J 31) [(0,.view .fix x.1),(3,.own 0)],[(0,.rows (.int .i64) 3 x.2)],1⟩)
theorem bM (x : AM) (i : Int) : roundN c49 60 63 (loopAt c49.P 63 3) fM1 eM1 (TM (x, i)) =
    .ite (decide (i < x.1.length)) (.asrt (0≤i∧i < x.1.length) (.ite (!mayF (rd .fix x.1 i)) (.ret RM) (.asrt ((x.2 ++ [unitsV (rd .fix x.1 i).S (rd .fix x.1 i).P]).length * 8≤140737488355328) (.ret (.normal,TM ((x.1,x.2 ++ [unitsV (rd .fix x.1 i).S (rd .fix x.1 i).P]),IntKind.i64.wrap (i + 1))))))) (.ret (EM x)):=by kernel_rfl
def gM1 (σ:St):Option (AM × Int) :=
  match nth σ.tmps 0,nth σ.tmps 8,σ.heap with
  | .view .fix l,.int .i64 i,[(_,.rows (.int .i64) _ o)]=>some ((l,o),i)
  | _,_,_=>none
def nxtMa (x:AM) (i:Int):AM:=(x.1,x.2 ++ [unitsV (rd .fix x.1 i).S (rd .fix x.1 i).P])
def brkM1 (x:AM) (i:Int):Option Unit:=bif !mayF (rd .fix x.1 i) then some () else none
def okM1 (x:AM) (_:Int):Prop:=(x.2.length + 1) * 8≤140737488355328
def LM:LoopCon:=boundB 0 fM1 TM gM1 (fun x=>x.1.length) okM1 nxtMa brkM1 () (fun _=>RM) EM
theorem lM (hs:SubOf c49.P 63 (.loop (loopAt c49.P 63 3))):SoundLoop c49 (loopAt c49.P 63 3) LM :=
  bound_loop (C:=c49) (g:=63) (l:=3) c49_good 60 0 _ _ weak_fM1 weak_eM1 hs TM gM1 (fun x=>x.1.length) okM1 nxtMa brkM1 () (fun _=>RM) EM
    (fun _=>by intro h; cases h) (fun _=>by intro h; cases h) (fun _ _=>rfl)
    (fun x i h0 hi hm hok=>.of_eq (bM x i) (by
      unfold maxI64 at hm
      rw [wrap_fits (n:=i + 1) (by omega) (by omega)]
      refine (Tree.out_ite_true (decide_eq_true hi)).2 ⟨⟨h0,hi⟩,?_⟩
      unfold brkM1
      cases h:(!mayF (rd .fix x.1 i)) with
      | true=>exact (Tree.out_ite_true rfl).2 rfl
      | false=>exact (Tree.out_ite_false rfl).2 ⟨by rw [List.length_append]; exact hok,rfl⟩))
    (fun x i hi=>.of_eq (bM x i) ((Tree.out_ite_false (decide_eq_false (by omega))).2 rfl))
noncomputable def c50:Cfg:=c49.addLoop 63 3 LM
theorem c50_good:GoodCfg c50:=c49_good.addLoop (by unfold OneLoop; kernel_rfl) lM
def fixT (l:List Fu.Fix):Tree (AV × List Blk) :=
  .asrt (0 = 0∧TM ((l,[]),0) = TM ((l,[]),0)) (.asrt (0≤(0:Int)∧(l.length:Int)≤maxI64∧okI nxtMa brkM1 okM1 ((l.length:Int) - 0).toNat (l,[]) 0)
    (optT () (brkI nxtMa brkM1 ((l.length:Int) - 0).toNat (l,[]) 0) (fun _=>.ret (.blit false,[]))
      (.ret (.bool (decide (((foldI nxtMa ((l.length:Int) - 0).toNat (l,[]) 0).1.length:Int)≤4) && fitsV (foldI nxtMa ((l.length:Int) - 0).toNat (l,[]) 0).2),[]))))
theorem fMayFs (l:List Fu.Fix):callC c50 60 63 [.view .fix l] = fixT l:=by kernel_rfl
def unitF (x:Fu.Fix):Int:=unitsV x.S x.P
theorem foldMa {l : List Fu.Fix} (hl : (l.length : Int) < 17592186044416) (k : Nat) : ∀ (out : List Int) (i : Int), 0 ≤ i → i + k = l.length → out.length + k = l.length →
    okI nxtMa brkM1 okM1 k (l,out) i∧(brkI nxtMa brkM1 k (l,out) i).isSome = !((l.drop i.toNat).all mayF)∧((l.drop i.toNat).all mayF = true→foldI nxtMa k (l,out) i = (l,out ++ (l.drop i.toNat).map unitF)):=by
  induction k with
  | zero =>
    intro out i h0 h1 h2
    rw [drop_end (by omega)]
    exact ⟨trivial,rfl,fun _=>by simp [foldI]⟩
  | succ k ih =>
    intro out i h0 h1 h2
    have hd:=drop_rd (r:=.fix) (xs:=l) h0 (by omega)
    have hok:okM1 (l,out) i:=by show (out.length + 1) * 8≤140737488355328; omega
    rw [hd,List.all_cons]
    cases ho:mayF (rd .fix l i) with
    | false =>
      have e:brkM1 (l,out) i = some ():=by unfold brkM1; simp only; rw [ho]; rfl
      refine ⟨⟨hok,fun hn=>by rw [e] at hn; cases hn⟩,?_,fun h=>by simp at h⟩
      unfold brkI
      rw [e]
      rfl
    | true =>
      have e:brkM1 (l,out) i = none:=by unfold brkM1; simp only; rw [ho]; rfl
      obtain ⟨k1,k2,k3⟩:=ih (out ++ [unitF (rd .fix l i)]) (i + 1) (by omega) (by omega) (by rw [List.length_append]; simp only [List.length_cons,List.length_nil]; omega)
      refine ⟨⟨hok,fun _=>k1⟩,?_,fun h=>?_⟩
      · unfold brkI
        rw [e]
        exact k2
      · rw [Bool.true_and] at h
        unfold foldI
        refine (k3 h).trans ?_
        rw [List.map_cons,List.append_assoc]
        rfl
def mayFs (l:List Fu.Fix):Bool:=l.all mayF && (decide ((l.length:Int)≤4) && fitsV (l.map unitF))
theorem fixT_rez {l:List Fu.Fix} (hl:(l.length:Int) < 17592186044416):Rez (fixT l) (.bool (mayFs l),[]):=by
  obtain ⟨k1,k2,k3⟩:=foldMa hl ((l.length:Int) - 0).toNat [] 0 (Int.le_refl _) (by omega) (by simp)
  rw [show (0:Int).toNat = 0 from rfl,List.drop_zero] at k2 k3
  refine .asrt ⟨rfl,rfl⟩ (.asrt ⟨Int.le_refl _,by unfold maxI64; omega,k1⟩ ?_)
  unfold mayFs
  cases ha:l.all mayF with
  | true =>
    rw [ha] at k2
    have hn:brkI nxtMa brkM1 ((l.length:Int) - 0).toNat (l,[]) 0 = none:=by
      cases hb:brkI nxtMa brkM1 ((l.length:Int) - 0).toNat (l,[]) 0 with
      | none=>rfl
      | some b=>rw [hb] at k2; cases k2
    rw [hn,k3 ha]
    exact .itee rfl (.ret (.refl _) rfl)
  | false =>
    rw [ha] at k2
    cases hb:brkI nxtMa brkM1 ((l.length:Int) - 0).toNat (l,[]) 0 with
    | none=>rw [hb] at k2; cases k2
    | some b=>exact .itet rfl (.ret (.blit rfl) rfl)
def conMayFs:Con:=flatCon (d1 (dView .fix)) (fun l=>(l.length:Int) < 17592186044416) fun l=>.bool (mayFs l)
theorem conMayFs_valid:ValidCon c50.P 63 conMayFs:=flatCon_valid c50_good 60 (by kernel_rfl) fun l h=>⟨_,fMayFs l,fixT_rez h⟩
noncomputable def c51:Cfg:=c50.addQuiet 63 conMayFs
theorem c51_good:GoodCfg c51:=c50_good.addQuiet conMayFs_valid flatCon_quiet
end Go.Fx
namespace Go.Fx
open Go Go.Proofs
end Go.Fx
