import Derived.Test.YtgefkgmfbmdooaaGreatB21
import Derived.Test.YtgefkgmfbmdooaaGreatC3
namespace Go.Fx
open Go Go.Proofs
def badEnds (s:Fu.Spec) (p a b:Int):Bool:=unitsV s p == 0 || (decide (a < 0) || (decide (a > b) || (decide (b > 1099511627776) || decide (IntKind.i64.wrap (b - a) > 5000))))
def endsT (s:Fu.Spec) (p a b:Int):Tree (AV × List Blk) :=
  .ite (badEnds s p a b) (.ret (.nils,[])) (.asrt (okSteps (IntKind.i64.wrap (a + p),p,b)) (.ret (.own 0,[.rows (.int .i64) 3 (stepsL (IntKind.i64.wrap (a + p)) p b)])))
theorem fEnds (s:Fu.Spec) (p a b:Int):callC c52 100 89 [.agg (encSpec s),.int .i64 p,.int .i64 a,.int .i64 b] = endsT s p a b:=by kernel_rfl
def endsV (s:Fu.Spec) (p a b:Int):List Int:=bif unitsV s p == 0 || (decide (a < 0) || (decide (a > b) || (decide (b > 1099511627776) || decide (b - a > 5000)))) then [] else stepsL (a + p) p b
theorem stepsK_le {f b u:Int} (hb:1≤b) (h:f≤u):(stepsK f b u:Int)≤u - f + 1:=by
  unfold stepsK
  rw [if_pos h]
  have:=Int.ediv_le_self b (show 0≤u - f by omega)
  have:=Int.ediv_nonneg (show 0≤u - f by omega) (show 0≤b by omega)
  omega
theorem endsT_wp (s:Fu.Spec) (p a b:Int):(endsV s p a b = []∧(endsT s p a b).Out (.nils,[]))∨(endsT s p a b).Out (.own 0,[.rows (.int .i64) 3 (endsV s p a b)]):=by
  unfold endsT endsV badEnds
  by_cases hab:0≤a∧a≤b∧b≤1099511627776
  · rw [wrap_fits (n:=b - a) (by omega) (by omega)]
    cases h:(unitsV s p == 0 || (decide (a < 0) || (decide (a > b) || (decide (b > 1099511627776) || decide (b - a > 5000))))) with
    | true=>exact .inl ⟨rfl,(Tree.out_ite_true rfl).2 rfl⟩
    | false =>
      right
      simp only [Bool.or_eq_false_iff,decide_eq_false_iff_not,beq_eq_false_iff_ne] at h
      have hp:perOK s p = true:=by
        cases hp:perOK s p with
        | true=>rfl
        | false=>exact absurd (unitsV_zero.2 hp) h.1
      have hpp:=(perOK_iff.1 hp)
      have hp1:1≤p:=by have:=hpp.1.1; have:=hpp.1.2.1; omega
      have hp2:p≤48:=by have:=hpp.1.2.1; omega
      rw [wrap_fits (n:=a + p) (by omega) (by omega)]
      refine (Tree.out_ite_false rfl).2 ⟨⟨⟨hp1,by simp only; omega⟩,by simp only; omega,by simp only; omega,?_⟩,rfl⟩
      simp only
      by_cases hle:a + p≤b
      · have:=stepsK_le hp1 hle; omega
      · unfold stepsK; rw [if_neg hle]; omega
  · have h1:(decide (a < 0) || (decide (a > b) || decide (b > 1099511627776))) = true:=by
      simp only [Bool.or_eq_true,decide_eq_true_eq]; omega
    have h2:∀ x y:Bool,(x || (decide (a < 0) || (decide (a > b) || (decide (b > 1099511627776) || y)))) = true:=by
      intro x y
      simp only [Bool.or_eq_true,decide_eq_true_eq] at h1 ⊢
      omega
    rw [h2,h2]
    exact .inl ⟨rfl,(Tree.out_ite_true rfl).2 rfl⟩
def conEnds:Con:=plainCon (d4 dSpec dInt dInt dInt) fun x=>.view (.int .i64) (endsV x.1 x.2.1 x.2.2.1 x.2.2.2)
theorem conEnds_valid:ValidCon c52.P 89 conEnds:=frozenPlain_valid c52_good 100 (by kernel_rfl) fun x=>⟨_,rfl,by
  obtain ⟨s,p,a,b⟩:=x
  show Rez (frozen (callC c52 100 89) [.agg (encSpec s),.int .i64 p,.int .i64 a,.int .i64 b]) _
  unfold frozen
  rw [fEnds]
  rcases endsT_wp s p a b with ⟨h1,h2⟩ | h2
  · refine ⟨.nils,⟨fun hr=>?_⟩,Tree.out_of_wp (Tree.wp_bind.2 (Tree.wp_of_out h2 rfl))⟩
    simp only [h1]
    cases hr with
    | nils a _=>exact .view0 _ _ rfl _ _ .nil
  · exact ⟨_,.refl _,Tree.out_of_wp (Tree.wp_bind.2 (Tree.wp_of_out h2 rfl))⟩⟩
noncomputable def c53:Cfg:=c52.addQuiet 89 conEnds
theorem c53_good:GoodCfg c53:=c52_good.addQuiet conEnds_valid plainCon_quiet
def mostV (m k n:Int):Int:=bif mayP m k && inJ n then cdiv (n * m) k else 0
theorem fMost (m k n:Int):callC c53 60 119 [.int .i64 m,.int .i64 k,.int .i64 n] =
  .ite (!mayP m k) (.ret (.lit .i64 0,[])) (.ite (!inJ n) (.ret (.lit .i64 0,[])) (.ret (.int .i64 (ceilV (IntKind.i64.wrap (n * m)) k),[]))):=by kernel_rfl
theorem most_val {m k n:Int} (h:mayP m k = true) (h2:inJ n = true):ceilV (IntKind.i64.wrap (n * m)) k = cdiv (n * m) k∧0≤n * m:=by
  have h3:1≤m∧m≤k∧k≤6:=by simpa [mayP] using h
  have h4:0≤n∧n≤1099511627776:=by simpa [inJ] using h2
  have k1:=mul_le_of (a:=n) (b:=m) (x:=1099511627776) (y:=6) (by omega) (by omega) (by omega) (by omega)
  rw [wrap_fits (by omega) (by omega),ceilV_of (by omega) (by omega) (by omega) (by omega)]
  exact ⟨rfl,k1.1⟩
def conMost:Con:=plainCon (d3 dInt dInt dInt) fun x=>.int .i64 (mostV x.1 x.2.1 x.2.2)
theorem conMost_valid:ValidCon c53.P 119 conMost:=plainCon_valid c53_good 60 (by kernel_rfl) fun ⟨m,k,n⟩=>⟨_,fMost m k n,ite_rez (fun h=>.ret (.lit (by simp at h; simp [mostV,h])) rfl) fun h=>ite_rez (fun h2=>.ret (.lit (by simp at h2; simp [mostV,h2])) rfl) fun h2=>.ret (.eq (by
  have h:mayP m k = true:=by simpa using h
  have h2:inJ n = true:=by simpa using h2
  rw [(most_val h h2).1]
  simp [mostV,h,h2])) rfl⟩
noncomputable def c54:Cfg:=c53.addQuiet 119 conMost
theorem c54_good:GoodCfg c54:=c53_good.addQuiet conMost_valid plainCon_quiet
def ofV (x:Fu.Fix) (n:Int):Int:=bif mayF x && (decide (0≤n) && decide (n≤1099511627776)) then x.S.C * mostV x.S.M x.S.K (n / x.P) else 0
theorem fOf (x:Fu.Fix) (n:Int):callC c54 60 91 [.agg (RTy.fix.enc x),.int .i64 n] =
  .ite (!mayF x || (decide (n < 0) || decide (n > 1099511627776))) (.ret (.lit .i64 0,[])) (.asrt (x.P≠0) (.ret (.int .i64 (IntKind.i64.wrap (x.S.C * mostV x.S.M x.S.K (IntKind.i64.wrap (n.tdiv x.P)))),[]))):=by kernel_rfl
theorem mayF_per {x:Fu.Fix} (h:mayF x = true):perOK x.S x.P = true:=(mayF_C h).1
theorem mayF_iff {x:Fu.Fix}:mayF x = true↔perOK x.S x.P = true:=⟨mayF_per,fun h=>decide_eq_true (unitsV_pos h)⟩
theorem of_val {x:Fu.Fix} {n:Int} (h:mayF x = true) (h0:0≤n) (h1:n≤1099511627776):x.P≠0∧IntKind.i64.wrap (n.tdiv x.P) = n / x.P∧0≤n / x.P∧n / x.P≤n∧0≤mostV x.S.M x.S.K (n / x.P)∧mostV x.S.M x.S.K (n / x.P)≤n∧0≤ofV x n∧ofV x n≤6 * n∧IntKind.i64.wrap (x.S.C * mostV x.S.M x.S.K (n / x.P)) = ofV x n:=by
  obtain ⟨⟨a1,a2,a3,_⟩,a4,a5⟩:=perOK_iff.1 (mayF_per h)
  have hp:0 < x.P:=by omega
  have k1:=Int.ediv_nonneg h0 (show 0≤x.P by omega)
  have k2:=Int.ediv_le_self x.P h0
  have hm:mayP x.S.M x.S.K = true:=by simp [mayP]; omega
  have hj:inJ (n / x.P) = true:=by simp [inJ]; omega
  have e:mostV x.S.M x.S.K (n / x.P) = cdiv (n / x.P * x.S.M) x.S.K:=by simp [mostV,hm,hj]
  have hK:0 < x.S.K:=by omega
  have hnm:0≤n / x.P * x.S.M:=Int.mul_nonneg k1 (by omega)
  have k3:=cdiv_nonneg hK hnm
  have k4:cdiv (n / x.P * x.S.M) x.S.K≤n / x.P:=by
    rw [cdiv_le_iff hK]; exact Int.mul_le_mul_of_nonneg_left (by omega) k1
  have k5:=mul_le_of (a:=x.S.C) (b:=mostV x.S.M x.S.K (n / x.P)) (x:=6) (y:=n) (by omega) (by omega) (by omega) (by omega)
  have eo:ofV x n = x.S.C * mostV x.S.M x.S.K (n / x.P):=by unfold ofV; rw [h,decide_eq_true h0,decide_eq_true h1]; rfl
  refine ⟨by omega,?_,k1,k2,by omega,by omega,by omega,by omega,?_⟩
  · rw [Int.tdiv_eq_ediv_of_nonneg h0,wrap_fits (by omega) (by omega)]
  · rw [wrap_fits (by omega) (by omega),eo]
def conOf:Con:=plainCon (d2 dFix dInt) fun x=>.int .i64 (ofV x.1 x.2)
theorem conOf_valid:ValidCon c54.P 91 conOf:=plainCon_valid c54_good 60 (by kernel_rfl) fun ⟨x,n⟩=>⟨_,fOf x n,by
  cases h:(!mayF x || (decide (n < 0) || decide (n > 1099511627776))) with
  | true =>
    refine .itet rfl (.ret (.lit ?_) rfl)
    have:(mayF x && (decide (0≤n) && decide (n≤1099511627776))) = false:=by
      cases hm:mayF x with
      | false=>rfl
      | true =>
        rw [hm] at h
        simp only [Bool.not_true,Bool.false_or,Bool.or_eq_true,decide_eq_true_eq] at h
        simp only [Bool.true_and,Bool.and_eq_false_iff,decide_eq_false_iff_not]
        omega
    unfold ofV; rw [this]; rfl
  | false =>
    simp only [Bool.or_eq_false_iff,decide_eq_false_iff_not,Bool.not_eq_false'] at h
    obtain ⟨k1,k2,_,_,_,_,_,_,k3⟩:=of_val h.1 (show 0≤n by omega) (by omega)
    refine .itee rfl (.asrt k1 (.ret (.eq ?_) rfl))
    rw [k2,k3]⟩
noncomputable def c55:Cfg:=c54.addQuiet 91 conOf
theorem c55_good:GoodCfg c55:=c54_good.addQuiet conOf_valid plainCon_quiet
end Go.Fx
namespace Go.Fx
open Go Go.Proofs
abbrev AL:=List Fu.Fix × Int × Int
def TL (x:AL × Int):St:=⟨puts (J 35) [(1,.int .i64 x.1.2.1),(5,.int .i64 x.1.2.2),(9,.view .fix x.1.1),(10,.int .i64 x.1.1.length),(11,.int .i64 x.2)],[],0⟩
def sL:List Sh:=sets (Js 35) [(1,.keep),(5,.int),(9,.keep),(10,.int),(11,.int)]
def eL:List Sh:=sets (Js 35) [(5,.int)]
def EL (x:AL):Ex × St:=(.exit 0,⟨puts (J 35) [(5,.int .i64 x.2.2)],[],0⟩)
def lastW (x:Fu.Fix) (n:Int):List Int:=endsV x.S x.P 0 (IntKind.i64.wrap (n - 1))
def endN (l:List Int):Int:=IntKind.i64.wrap ((l.length:Int) - 1)
theorem bL (x : AL) (i : Int) : roundN c55 60 64 (loopAt c55.P 64 3) (norm2 0 [] [] sL) (norm2 0 [] [] eL) (TL (x, i)) =
    .ite (decide (i < x.1.length)) (.asrt (0≤i∧i < x.1.length) (.asrt (decide (((lastW (rd .fix x.1 i) x.2.1).length:Int) > 0) = true→0≤endN (lastW (rd .fix x.1 i) x.2.1)∧endN (lastW (rd .fix x.1 i) x.2.1) < (lastW (rd .fix x.1 i) x.2.1).length)
      (.ret (.normal,TL ((x.1,x.2.1,bif decide (((lastW (rd .fix x.1 i) x.2.1).length:Int) > 0) then maxI x.2.2 (rd (.int .i64) (lastW (rd .fix x.1 i) x.2.1) (endN (lastW (rd .fix x.1 i) x.2.1))) else x.2.2),IntKind.i64.wrap (i + 1)))))) (.ret (EL x)):=by kernel_rfl
def gL (σ:St):Option (AL × Int) :=
  match nth σ.tmps 1,nth σ.tmps 5,nth σ.tmps 9,nth σ.tmps 11 with
  | .int .i64 n,.int .i64 o,.view .fix l,.int .i64 i=>some ((l,n,o),i)
  | _,_,_,_=>none
def lastE (n:Int) (x:Fu.Fix):Int:=bif mayF x && (decide (1≤n) && decide (n≤5001)) then x.P * ((n - 1) / x.P) else 0
def nxtL (x:AL) (i:Int):AL:=(x.1,x.2.1,max x.2.2 (lastE x.2.1 (rd .fix x.1 i)))
def okL (x:AL) (_:Int):Prop:=(-1099511627776≤x.2.1∧x.2.1≤1099511627776)∧0≤x.2.2
theorem stepsN_get (f b:Int):∀ (k i:Nat),i < k→(stepsN f b k)[i]? = some (f + b * i)
  | 0,i,h=>by omega
  | k + 1,i,h=>by
    unfold stepsN
    rcases Nat.lt_or_ge i k with h1 | h1
    · rw [List.getElem?_append_left (by rw [stepsN_len]; exact h1)]; exact stepsN_get f b k i h1
    · rw [List.getElem?_append_right (by rw [stepsN_len]; exact h1),stepsN_len,show i - k = 0 by omega,show i = k by omega]; rfl
theorem stepsL_len (f b u:Int):(stepsL f b u).length = stepsK f b u:=stepsN_len _ _ _
theorem last_eq {x : Fu.Fix} {n o : Int} (hn : -1099511627776 ≤ n ∧ n ≤ 1099511627776) (ho : 0 ≤ o) :
    ((lastW x n).length:Int) < 1099511627776∧(bif decide (((lastW x n).length:Int) > 0) then maxI o (rd (.int .i64) (lastW x n) (endN (lastW x n))) else o) = max o (lastE n x):=by
  unfold lastW
  rw [wrap_fits (n:=n - 1) (by omega) (by omega)]
  unfold endsV lastE
  cases hm:mayF x with
  | false =>
    have:unitsV x.S x.P = 0:=unitsV_zero.2 (by
      cases hp:perOK x.S x.P with
      | false=>rfl
      | true=>rw [mayF_iff.2 hp] at hm; cases hm)
    rw [this]
    simp
    omega
  | true =>
    have hp:=mayF_per hm
    obtain ⟨⟨a1,a2,a3,_⟩,a4,a5⟩:=perOK_iff.1 hp
    have hu:=unitsV_pos hp
    rw [show (unitsV x.S x.P == 0) = false by rw [beq_eq_false_iff_ne]; omega]
    by_cases h1:1≤n∧n≤5001
    · rw [show (false || (decide ((0:Int) < 0) || (decide (0 > n - 1) || (decide (n - 1 > 1099511627776) || decide (n - 1 - 0 > 5000))))) = false by
        simp only [Bool.false_or,Bool.or_eq_false_iff,decide_eq_false_iff_not]; omega]
      simp only [cond_false,h1.1,h1.2,decide_true,Bool.and_self,cond_true]
      have hP:1≤x.P:=by omega
      have hd:=Int.ediv_nonneg (show 0≤n - 1 by omega) (show 0≤x.P by omega)
      have hmod:=Int.mul_ediv_add_emod (n - 1) x.P
      have hm0:=Int.emod_nonneg (n - 1) (show x.P≠0 by omega)
      have hm1:=Int.emod_lt_of_pos (n - 1) (show 0 < x.P by omega)
      have hself:=Int.ediv_le_self x.P (show 0≤n - 1 by omega)
      have hk:stepsK (0 + x.P) x.P (n - 1) = ((n - 1) / x.P).toNat:=by
        have e1:stepsK (0 + x.P) x.P (n - 1)≤((n - 1) / x.P).toNat:=by
          rcases Nat.lt_or_ge ((n - 1) / x.P).toNat (stepsK (0 + x.P) x.P (n - 1)) with h | h
          · have h2:=(stepsK_lt hP).2 h
            rw [show (((n - 1) / x.P).toNat:Int) = (n - 1) / x.P by omega] at h2
            omega
          · exact h
        rcases Nat.eq_zero_or_pos ((n - 1) / x.P).toNat with h | h
        · omega
        · have h2:((n - 1) / x.P).toNat - 1 < stepsK (0 + x.P) x.P (n - 1):=(stepsK_lt hP).1 (by
            rw [show ((((n - 1) / x.P).toNat - 1:Nat):Int) = (n - 1) / x.P - 1 by omega,Int.mul_sub,Int.mul_one]
            omega)
          omega
      simp only [stepsL_len,hk]
      refine ⟨by omega,?_⟩
      have hge:0≤x.P * ((n - 1) / x.P):=Int.mul_nonneg (by omega) hd
      rcases Nat.eq_zero_or_pos ((n - 1) / x.P).toNat with h | h
      · rw [h,show (n - 1) / x.P = 0 by omega]
        simp
        omega
      · rw [decide_eq_true (show ((((n - 1) / x.P).toNat:Nat):Int) > 0 by omega)]
        simp only [cond_true]
        have e:endN (stepsL (0 + x.P) x.P (n - 1)) = (n - 1) / x.P - 1:=by
          unfold endN
          rw [stepsL_len,hk,wrap_fits (by omega) (by omega)]
          omega
        rw [e,maxI_eq]
        congr 1
        unfold rd
        rw [List.getD_eq_getElem?_getD]
        unfold stepsL
        rw [hk,stepsN_get _ _ _ _ (by omega)]
        rw [show ((((n - 1) / x.P - 1).toNat:Nat):Int) = (n - 1) / x.P - 1 by omega]
        show 0 + x.P + x.P * ((n - 1) / x.P - 1) = _
        rw [Int.mul_sub,Int.mul_one]
        omega
    · rw [show (false || (decide ((0:Int) < 0) || (decide (0 > n - 1) || (decide (n - 1 > 1099511627776) || decide (n - 1 - 0 > 5000))))) = true by
        simp only [Bool.false_or,Bool.or_eq_true,decide_eq_true_eq]; omega]
      have:(decide (1≤n) && decide (n≤5001)) = false:=by simp only [Bool.and_eq_false_iff,decide_eq_false_iff_not]; omega
      rw [this]
      simp
      omega
def LL:LoopCon:=boundF 0 (norm2 0 [] [] sL) TL gL (fun x=>x.1.length) okL nxtL EL
theorem lL (hs:SubOf c55.P 64 (.loop (loopAt c55.P 64 3))):SoundLoop c55 (loopAt c55.P 64 3) LL :=
  bound_fold (C:=c55) (g:=64) (l:=3) c55_good 60 0 _ _ (Weak.norm2 0 [] [] sL) (Weak.norm2 0 [] [] eL) hs TL gL (fun x=>x.1.length) okL nxtL EL
    (fun _=>by intro h; cases h) (fun _ _=>rfl)
    (fun x i h0 hi hm hok=>.of_eq (bL x i) (by
      unfold maxI64 at hm
      obtain ⟨k1,k2⟩:=last_eq (x:=rd .fix x.1 i) hok.1 hok.2
      rw [wrap_fits (n:=i + 1) (by omega) (by omega),k2]
      refine (Tree.out_ite_true (decide_eq_true hi)).2 ⟨⟨h0,hi⟩,fun hl=>?_,rfl⟩
      have hl:=of_decide_eq_true hl
      unfold endN
      rw [wrap_fits (by omega) (by omega)]
      omega))
    (fun x i hi=>.of_eq (bL x i) ((Tree.out_ite_false (decide_eq_false (by omega))).2 rfl))
noncomputable def c56:Cfg:=c55.addLoop 64 3 LL
theorem c56_good:GoodCfg c56:=c55_good.addLoop (by unfold OneLoop; kernel_rfl) lL
def lastV (l:List Fu.Fix) (n:Int):Int:=l.foldl (fun o x=>max o (lastE n x)) 0
def lastT (l:List Fu.Fix) (n:Int):Tree (AV × List Blk) :=
  .asrt (0 = 0∧TL ((l,n,0),0) = TL ((l,n,0),0)) (.asrt (0≤(0:Int)∧(l.length:Int)≤maxI64∧okI nxtL (fun _ _=>(none:Option Unit)) okL ((l.length:Int) - 0).toNat (l,n,0) 0)
    (.ret (.int .i64 (foldI nxtL ((l.length:Int) - 0).toNat (l,n,0) 0).2.2,[])))
theorem fLast (l:List Fu.Fix) (n:Int):callC c56 60 64 [.view .fix l,.int .i64 n] = lastT l n:=by kernel_rfl
theorem foldL {l : List Fu.Fix} {n : Int} (hn : -1099511627776 ≤ n ∧ n ≤ 1099511627776) (k : Nat) : ∀ (o i : Int), 0 ≤ i → i + k = l.length → 0 ≤ o →
    okI nxtL (fun _ _=>(none:Option Unit)) okL k (l,n,o) i∧foldI nxtL k (l,n,o) i = (l,n,(l.drop i.toNat).foldl (fun o x=>max o (lastE n x)) o):=by
  induction k with
  | zero=>intro o i h0 h1 h2; rw [drop_end (by omega)]; exact ⟨trivial,rfl⟩
  | succ k ih =>
    intro o i h0 h1 h2
    have hd:=drop_rd (r:=.fix) (xs:=l) h0 (by omega)
    obtain ⟨k1,k2⟩:=ih (max o (lastE n (rd .fix l i))) (i + 1) (by omega) (by omega) (by omega)
    refine ⟨⟨⟨hn,h2⟩,fun _=>k1⟩,?_⟩
    unfold foldI
    refine k2.trans ?_
    rw [hd]
    rfl
theorem lastT_rez {l:List Fu.Fix} {n:Int} (h:(l.length:Int) < 17592186044416∧-1099511627776≤n∧n≤1099511627776):Rez (lastT l n) (.int .i64 (lastV l n),[]):=by
  obtain ⟨k1,k2⟩:=foldL (l:=l) h.2 ((l.length:Int) - 0).toNat 0 0 (Int.le_refl _) (by omega) (Int.le_refl _)
  exact .asrt ⟨rfl,rfl⟩ (.asrt ⟨Int.le_refl _,by unfold maxI64; omega,k1⟩ (.ret (.eq (by rw [k2]; rfl)) rfl))
def conLast:Con:=flatCon (d2 (dView .fix) dInt) (fun x=>(x.1.length:Int) < 17592186044416∧-1099511627776≤x.2∧x.2≤1099511627776) fun x=>.int .i64 (lastV x.1 x.2)
theorem conLast_valid:ValidCon c56.P 64 conLast:=flatCon_valid c56_good 60 (by kernel_rfl) fun x h=>⟨_,fLast x.1 x.2,lastT_rez h⟩
noncomputable def c57:Cfg:=c56.addQuiet 64 conLast
theorem c57_good:GoodCfg c57:=c56_good.addQuiet conLast_valid flatCon_quiet
def TAl (x:AL × Int):St:=⟨puts (J 25) [(1,.int .i64 x.1.2.1),(5,.int .i64 x.1.2.2),(12,.view .fix x.1.1),(13,.int .i64 x.1.1.length),(14,.int .i64 x.2)],[],0⟩
def sAl:List Sh:=sets (Js 25) [(1,.keep),(5,.int),(12,.keep),(13,.int),(14,.int)]
def eAl:List Sh:=sets (Js 25) [(5,.int)]
def EAl (x:AL):Ex × St:=(.exit 0,⟨puts (J 25) [(5,.int .i64 x.2.2)],[],0⟩)
theorem bAl (x : AL) (i : Int) : roundN c57 60 66 (loopAt c57.P 66 5) (norm2 0 [] [] sAl) (norm2 0 [] [] eAl) (TAl (x, i)) =
    .ite (decide (i < x.1.length)) (.asrt (0≤i∧i < x.1.length) (.ret (.normal,TAl ((x.1,x.2.1,IntKind.i64.wrap (x.2.2 + ofV (rd .fix x.1 i) x.2.1)),IntKind.i64.wrap (i + 1))))) (.ret (EAl x)):=by kernel_rfl
def gAl (σ:St):Option (AL × Int) :=
  match nth σ.tmps 1,nth σ.tmps 5,nth σ.tmps 12,nth σ.tmps 14 with
  | .int .i64 n,.int .i64 o,.view .fix l,.int .i64 i=>some ((l,n,o),i)
  | _,_,_,_=>none
def nxtAl (x:AL) (i:Int):AL:=(x.1,x.2.1,x.2.2 + ofV (rd .fix x.1 i) x.2.1)
def okAl (x:AL) (_:Int):Prop:=0≤x.2.2∧x.2.2≤1152921504606846976
theorem ofV_range (x:Fu.Fix) (n:Int):0≤ofV x n∧ofV x n≤6597069766656:=by
  cases h:(mayF x && (decide (0≤n) && decide (n≤1099511627776))) with
  | false=>unfold ofV; rw [h]; simp
  | true =>
    simp only [Bool.and_eq_true,decide_eq_true_eq] at h
    obtain ⟨_,_,_,_,_,_,k1,k2,_⟩:=of_val h.1 h.2.1 h.2.2
    omega
def LAl:LoopCon:=boundF 0 (norm2 0 [] [] sAl) TAl gAl (fun x=>x.1.length) okAl nxtAl EAl
theorem lAl (hs:SubOf c57.P 66 (.loop (loopAt c57.P 66 5))):SoundLoop c57 (loopAt c57.P 66 5) LAl :=
  bound_fold (C:=c57) (g:=66) (l:=5) c57_good 60 0 _ _ (Weak.norm2 0 [] [] sAl) (Weak.norm2 0 [] [] eAl) hs TAl gAl (fun x=>x.1.length) okAl nxtAl EAl
    (fun _=>by intro h; cases h) (fun _ _=>rfl)
    (fun x i h0 hi hm hok=>.of_eq (bAl x i) (by
      unfold maxI64 at hm
      unfold okAl at hok
      have hr:=ofV_range (rd .fix x.1 i) x.2.1
      rw [wrap_fits (n:=i + 1) (by omega) (by omega),wrap_fits (by omega) (by omega)]
      exact (Tree.out_ite_true (decide_eq_true hi)).2 ⟨⟨h0,hi⟩,rfl⟩))
    (fun x i hi=>.of_eq (bAl x i) ((Tree.out_ite_false (decide_eq_false (by omega))).2 rfl))
noncomputable def c58:Cfg:=c57.addLoop 66 5 LAl
theorem c58_good:GoodCfg c58:=c57_good.addLoop (by unfold OneLoop; kernel_rfl) lAl
def sumOf (l:List Fu.Fix) (n:Int):Int:=(l.map fun x=>ofV x n).sum
def allV (l:List Fu.Fix) (n:Int):Int:=bif decide ((l.length:Int) > 1000) then 0 else sumOf l n
def allT (l:List Fu.Fix) (n:Int):Tree (AV × List Blk) :=
  .ite (decide ((l.length:Int) > 1000)) (.ret (.lit .i64 0,[])) (.asrt (0 = 0∧TAl ((l,n,0),0) = TAl ((l,n,0),0)) (.asrt (0≤(0:Int)∧(l.length:Int)≤maxI64∧okI nxtAl (fun _ _=>(none:Option Unit)) okAl ((l.length:Int) - 0).toNat (l,n,0) 0)
    (.ret (.int .i64 (foldI nxtAl ((l.length:Int) - 0).toNat (l,n,0) 0).2.2,[]))))
theorem fAll (l:List Fu.Fix) (n:Int):callC c58 60 66 [.view .fix l,.int .i64 n] = allT l n:=by kernel_rfl
theorem foldAl {l : List Fu.Fix} {n : Int} (k : Nat) : ∀ (o i : Int), 0 ≤ i → i + k = l.length → 0 ≤ o → o + k * 6597069766656 ≤ 1152921504606846976 →
    okI nxtAl (fun _ _=>(none:Option Unit)) okAl k (l,n,o) i∧foldI nxtAl k (l,n,o) i = (l,n,o + sumOf (l.drop i.toNat) n):=by
  induction k with
  | zero=>intro o i h0 h1 h2 h3; rw [drop_end (by omega)]; exact ⟨trivial,by simp [foldI,sumOf]⟩
  | succ k ih =>
    intro o i h0 h1 h2 h3
    have hd:=drop_rd (r:=.fix) (xs:=l) h0 (by omega)
    have hr:=ofV_range (rd .fix l i) n
    obtain ⟨k1,k2⟩:=ih (o + ofV (rd .fix l i) n) (i + 1) (by omega) (by omega) (by omega) (by omega)
    refine ⟨⟨⟨h2,by show o≤1152921504606846976; omega⟩,fun _=>k1⟩,?_⟩
    unfold foldI
    refine k2.trans ?_
    rw [hd]
    simp only [sumOf,List.map_cons,List.sum_cons,Int.add_assoc]
theorem allT_rez (l:List Fu.Fix) (n:Int):Rez (allT l n) (.int .i64 (allV l n),[]):=by
  unfold allT allV
  cases h:decide ((l.length:Int) > 1000) with
  | true=>exact .itet rfl (.ret (.lit rfl) rfl)
  | false =>
    have h:=of_decide_eq_false h
    obtain ⟨k1,k2⟩:=foldAl (l:=l) (n:=n) ((l.length:Int) - 0).toNat 0 0 (Int.le_refl _) (by omega) (Int.le_refl _) (by omega)
    exact .itee rfl (.asrt ⟨rfl,rfl⟩ (.asrt ⟨Int.le_refl _,by unfold maxI64; omega,k1⟩ (.ret (.eq (by rw [k2,Int.zero_add]; rfl)) rfl)))
def conAll:Con:=plainCon (d2 (dView .fix) dInt) fun x=>.int .i64 (allV x.1 x.2)
theorem conAll_valid:ValidCon c58.P 66 conAll:=plainCon_valid c58_good 60 (by kernel_rfl) fun x=>⟨_,fAll x.1 x.2,allT_rez x.1 x.2⟩
noncomputable def c59:Cfg:=c58.addQuiet 66 conAll
theorem c59_good:GoodCfg c59:=c58_good.addQuiet conAll_valid plainCon_quiet
abbrev AHz:=List Fu.Fix × Int
def THz (x:AHz × Int):St:=⟨puts (J 30) [(3,.int .i64 x.1.2),(11,.view .fix x.1.1),(12,.int .i64 x.1.1.length),(13,.int .i64 x.2)],[],0⟩
def sHz:List Sh:=sets (Js 30) [(3,.int),(11,.keep),(12,.int),(13,.int)]
def eHz:List Sh:=sets (Js 30) [(3,.int)]
def EHz (x:AHz):Ex × St:=(.exit 0,⟨puts (J 30) [(3,.int .i64 x.2)],[],0⟩)
theorem bHz (x : AHz) (i : Int) : roundN c59 60 65 (loopAt c59.P 65 5) (norm2 0 [] [] sHz) (norm2 0 [] [] eHz) (THz (x, i)) =
    .ite (decide (i < x.1.length)) (.asrt (0≤i∧i < x.1.length) (.ret (.normal,THz ((x.1,IntKind.i64.wrap (x.2 + (rd .fix x.1 i).S.C)),IntKind.i64.wrap (i + 1))))) (.ret (EHz x)):=by kernel_rfl
def gHz (σ:St):Option (AHz × Int) :=
  match nth σ.tmps 3,nth σ.tmps 11,nth σ.tmps 13 with
  | .int .i64 o,.view .fix l,.int .i64 i=>some ((l,o),i)
  | _,_,_=>none
def nxtHz (x:AHz) (i:Int):AHz:=(x.1,x.2 + (rd .fix x.1 i).S.C)
def okHz (x:AHz) (i:Int):Prop:=(0≤x.2∧x.2≤1099511627776)∧(0≤(rd .fix x.1 i).S.C∧(rd .fix x.1 i).S.C≤6)
def LHz:LoopCon:=boundF 0 (norm2 0 [] [] sHz) THz gHz (fun x=>x.1.length) okHz nxtHz EHz
theorem lHz (hs:SubOf c59.P 65 (.loop (loopAt c59.P 65 5))):SoundLoop c59 (loopAt c59.P 65 5) LHz :=
  bound_fold (C:=c59) (g:=65) (l:=5) c59_good 60 0 _ _ (Weak.norm2 0 [] [] sHz) (Weak.norm2 0 [] [] eHz) hs THz gHz (fun x=>x.1.length) okHz nxtHz EHz
    (fun _=>by intro h; cases h) (fun _ _=>rfl)
    (fun x i h0 hi hm hok=>.of_eq (bHz x i) (by
      unfold maxI64 at hm
      obtain ⟨⟨h1,h2⟩,h3,h4⟩:=hok
      rw [wrap_fits (n:=i + 1) (by omega) (by omega),wrap_fits (by omega) (by omega)]
      exact (Tree.out_ite_true (decide_eq_true hi)).2 ⟨⟨h0,hi⟩,rfl⟩))
    (fun x i hi=>.of_eq (bHz x i) ((Tree.out_ite_false (decide_eq_false (by omega))).2 rfl))
noncomputable def c60:Cfg:=c59.addLoop 65 5 LHz
theorem c60_good:GoodCfg c60:=c59_good.addLoop (by unfold OneLoop; kernel_rfl) lHz
def hzV (l:List Fu.Fix):Int:=bif mayFs l then 16 * (l.map fun x=>x.S.C).sum else 0
def hzT (l:List Fu.Fix):Tree (AV × List Blk) :=
  .asrt ((l.length:Int) < 17592186044416) (.ite (!mayFs l) (.ret (.lit .i64 0,[])) (.asrt (0 = 0∧THz ((l,0),0) = THz ((l,0),0)) (.asrt (0≤(0:Int)∧(l.length:Int)≤maxI64∧okI nxtHz (fun _ _=>(none:Option Unit)) okHz ((l.length:Int) - 0).toNat (l,0) 0)
    (.ret (.int .i64 (ceilV (IntKind.i64.wrap ((foldI nxtHz ((l.length:Int) - 0).toNat (l,0) 0).2 * 1048576)) 65536),[])))))
theorem fHz (l:List Fu.Fix):callC c60 60 65 [.view .fix l] = hzT l:=by kernel_rfl
theorem foldHz {l : List Fu.Fix} (h : ∀ x ∈ l, 0 ≤ x.S.C ∧ x.S.C ≤ 6) (k : Nat) : ∀ (r i : Int), 0 ≤ i → i + k = l.length → 0 ≤ r → r + k * 6 ≤ 1099511627776 →
    okI nxtHz (fun _ _=>(none:Option Unit)) okHz k (l,r) i∧(foldI nxtHz k (l,r) i).2 = r + ((l.drop i.toNat).map fun x=>x.S.C).sum∧0≤((l.drop i.toNat).map fun x=>x.S.C).sum∧((l.drop i.toNat).map fun x=>x.S.C).sum≤6 * k:=by
  induction k with
  | zero =>
    intro r i h0 h1 h2 h3
    rw [drop_end (by omega)]
    exact ⟨trivial,by simp [foldI],by simp,by simp⟩
  | succ k ih =>
    intro r i h0 h1 h2 h3
    have hd:=drop_rd (r:=.fix) (xs:=l) h0 (by omega)
    have hx:=h (rd .fix l i) (by
      have:rd .fix l i ∈ l.drop i.toNat:=by rw [hd]; simp
      exact List.mem_of_mem_drop this)
    have hok:okHz (l,r) i:=⟨⟨h2,by show r≤1099511627776; omega⟩,hx⟩
    obtain ⟨k1,k2,k3,k4⟩:=ih (r + (rd .fix l i).S.C) (i + 1) (by omega) (by omega) (by omega) (by omega)
    have e:((l.drop i.toNat).map fun x=>x.S.C).sum = (rd .fix l i).S.C + ((l.drop (i + 1).toNat).map fun x=>x.S.C).sum:=by rw [hd]; simp
    refine ⟨⟨hok,fun _=>k1⟩,?_,by omega,by omega⟩
    unfold foldI
    refine k2.trans ?_
    omega
theorem mayFs_mem {l:List Fu.Fix} (h:mayFs l = true):l.length≤4∧∀ x ∈ l,mayF x = true:=by
  unfold mayFs at h
  simp only [Bool.and_eq_true,decide_eq_true_eq,List.all_eq_true] at h
  exact ⟨by omega,h.1⟩
theorem hzT_rez {l:List Fu.Fix} (hl:(l.length:Int) < 17592186044416):Rez (hzT l) (.int .i64 (hzV l),[]):=by
  refine .asrt hl ?_
  unfold hzV
  cases hc:mayFs l with
  | false=>exact .itet rfl (.ret (.lit rfl) rfl)
  | true =>
    refine .itee rfl ?_
    obtain ⟨h5,h4⟩:=mayFs_mem hc
    obtain ⟨k1,k2,k3,k4⟩:=foldHz (l:=l) (fun x hx=>(mayF_C (h4 x hx)).2) ((l.length:Int) - 0).toNat 0 0 (Int.le_refl _) (by omega) (by omega) (by omega)
    rw [show (0:Int).toNat = 0 from rfl,List.drop_zero] at k2 k3 k4
    refine .asrt ⟨rfl,rfl⟩ (.asrt ⟨Int.le_refl _,by unfold maxI64; omega,k1⟩ (.ret (.eq ?_) rfl))
    rw [k2,wrap_fits (by omega) (by omega),ceilV_of (by omega) (by omega) (by omega) (by omega)]
    rw [show cdiv ((0 + (l.map fun x=>x.S.C).sum) * 1048576) 65536 = 16 * (l.map fun x=>x.S.C).sum from cdiv_unique (by omega) (by omega) (by omega)]
    rfl
def conHz:Con:=flatCon (d1 (dView .fix)) (fun l=>(l.length:Int) < 17592186044416) fun l=>.int .i64 (hzV l)
theorem conHz_valid:ValidCon c60.P 65 conHz:=flatCon_valid c60_good 60 (by kernel_rfl) fun l h=>⟨_,fHz l,hzT_rez h⟩
noncomputable def c61:Cfg:=c60.addQuiet 65 conHz
theorem c61_good:GoodCfg c61:=c60_good.addQuiet conHz_valid flatCon_quiet
end Go.Fx
namespace Go.Fx
open Go Go.Proofs
theorem ofV_eq {x:Fu.Fix} {n:Int} (h:mayF x = true) (h0:0≤n) (h1:n≤1099511627776):ofV x n = x.S.C * cdiv (n / x.P * x.S.M) x.S.K:=by
  obtain ⟨_,_,k1,k2,_⟩:=of_val h h0 h1
  obtain ⟨⟨a1,a2,a3,_⟩,a4,a5⟩:=perOK_iff.1 (mayF_per h)
  have hm:mayP x.S.M x.S.K = true:=by simp [mayP]; omega
  have hj:inJ (n / x.P) = true:=by simp [inJ]; omega
  unfold ofV mostV
  rw [h,decide_eq_true h0,decide_eq_true h1,hm,hj]
  rfl
theorem ofV_mono {x:Fu.Fix} {n n':Int} (h:mayF x = true) (h0:0≤n) (hn:n≤n') (h1:n'≤1099511627776):ofV x n≤ofV x n':=by
  obtain ⟨⟨a1,a2,a3,_⟩,a4,a5⟩:=perOK_iff.1 (mayF_per h)
  rw [ofV_eq h h0 (by omega),ofV_eq h (by omega) h1]
  refine Int.mul_le_mul_of_nonneg_left (cdiv_mono (by omega) (Int.mul_le_mul_of_nonneg_right ?_ (by omega))) (by omega)
  exact Int.ediv_le_ediv (by omega) hn
theorem ofV_zero {x:Fu.Fix} (h:mayF x = true):ofV x 0 = 0:=by
  obtain ⟨⟨a1,a2,a3,_⟩,a4,a5⟩:=perOK_iff.1 (mayF_per h)
  rw [ofV_eq h (Int.le_refl _) (by omega),Int.zero_ediv,Int.zero_mul,show cdiv 0 x.S.K = 0 from cdiv_unique (by omega) (by omega) (by omega),Int.mul_zero]
theorem lastE_spec {x:Fu.Fix} {n:Int} (h:mayF x = true) (h0:1≤n) (h1:n≤5001):0≤lastE n x∧lastE n x≤n - 1∧∀ d,lastE n x≤d→d≤n - 1→d / x.P = (n - 1) / x.P:=by
  have hp:=perOK_P (mayF_per h)
  have e:lastE n x = x.P * ((n - 1) / x.P):=by unfold lastE; rw [h,decide_eq_true h0,decide_eq_true h1]; rfl
  have hd:=Int.ediv_nonneg (show 0≤n - 1 by omega) (show 0≤x.P by omega)
  have hmod:=Int.mul_ediv_add_emod (n - 1) x.P
  have hm0:=Int.emod_nonneg (n - 1) (show x.P≠0 by omega)
  have hm1:=Int.emod_lt_of_pos (n - 1) (show 0 < x.P by omega)
  have hge:0≤x.P * ((n - 1) / x.P):=Int.mul_nonneg (by omega) hd
  refine ⟨by omega,by omega,fun d h2 h3=>?_⟩
  have h4:(n - 1) / x.P≤d / x.P:=by rw [Int.le_ediv_iff_mul_le (by omega),Int.mul_comm]; omega
  have h5:d / x.P≤(n - 1) / x.P:=Int.ediv_le_ediv (by omega) h3
  omega
theorem foldl_max (n:Int):∀ (l:List Fu.Fix) (o:Int),o≤l.foldl (fun o x=>max o (lastE n x)) o∧(∀ x ∈ l,lastE n x≤l.foldl (fun o x=>max o (lastE n x)) o)∧∀ b,o≤b→(∀ x ∈ l,lastE n x≤b)→l.foldl (fun o x=>max o (lastE n x)) o≤b
  | [],o=>⟨Int.le_refl _,fun x hx=>(by cases hx),fun b h _=>h⟩
  | y :: l,o=>by
    obtain ⟨h1,h2,h3⟩:=foldl_max n l (max o (lastE n y))
    rw [List.foldl_cons]
    refine ⟨by omega,fun x hx=>?_,fun b h4 h5=>h3 b ?_ fun x hx=>h5 x (List.mem_cons_of_mem _ hx)⟩
    · rcases List.mem_cons.1 hx with rfl | hx
      · omega
      · exact h2 x hx
    · have:=h5 y (by simp); omega
theorem lastV_spec {l:List Fu.Fix} {n:Int} (h:∀ x ∈ l,mayF x = true) (h0:1≤n) (h1:n≤5001):0≤lastV l n∧lastV l n≤n - 1∧∀ d,lastV l n≤d→d≤n - 1→sumOf l d = sumOf l (lastV l n):=by
  obtain ⟨k1,k2,k3⟩:=foldl_max n l 0
  have hb:lastV l n≤n - 1:=k3 _ (by omega) fun x hx=>(lastE_spec (h x hx) h0 h1).2.1
  refine ⟨k1,hb,fun d h2 h3=>?_⟩
  unfold sumOf
  congr 1
  refine List.map_congr_left fun x hx=>?_
  have hx1:=lastE_spec (h x hx) h0 h1
  have hx2:=k2 x hx
  have h4:lastE n x≤lastV l n:=hx2
  have h5:0≤lastV l n:=k1
  rw [ofV_eq (h x hx) (by omega) (by omega),ofV_eq (h x hx) h5 (by omega),hx1.2.2 d (by omega) h3,hx1.2.2 (lastV l n) h4 hb]
theorem sumOf_mono {l:List Fu.Fix} {n n':Int} (h:∀ x ∈ l,mayF x = true) (h0:0≤n) (hn:n≤n') (h1:n'≤1099511627776):sumOf l n≤sumOf l n':=by
  induction l with
  | nil=>exact Int.le_refl _
  | cons x l ih =>
    have h2:=ih fun y hy=>h y (List.mem_cons_of_mem _ hy)
    have h3:=ofV_mono (h x (by simp)) h0 hn h1
    simp only [sumOf,List.map_cons,List.sum_cons] at *
    omega
theorem sumOf_zero {l:List Fu.Fix} (h:∀ x ∈ l,mayF x = true):sumOf l 0 = 0:=by
  induction l with
  | nil=>rfl
  | cons x l ih =>
    have h2:=ih fun y hy=>h y (List.mem_cons_of_mem _ hy)
    have h3:=ofV_zero (h x (by simp))
    simp only [sumOf,List.map_cons,List.sum_cons] at *
    omega
theorem sumOf_nonneg (l:List Fu.Fix) (n:Int):0≤sumOf l n:=by
  induction l with
  | nil=>exact Int.le_refl _
  | cons x l ih =>
    have h3:=(ofV_range x n).1
    simp only [sumOf,List.map_cons,List.sum_cons] at *
    omega
theorem allV_eq {l:List Fu.Fix} (h:l.length≤1000) (n:Int):allV l n = sumOf l n:=by
  unfold allV
  rw [decide_eq_false (by omega)]
  rfl
def testV (l:List Fu.Fix):Bool:=mayFs l && (List.range (hzV l).toNat).all fun d=>decide (sumOf l d≤d)
theorem testV_iff {l:List Fu.Fix}:testV l = true↔mayFs l = true∧∀ d:Int,0≤d→d < hzV l→sumOf l d≤d:=by
  unfold testV
  rw [Bool.and_eq_true,List.all_eq_true]
  refine and_congr_right fun _=>⟨fun h d h0 h1=>?_,fun h d hd=>?_⟩
  · have:=of_decide_eq_true (h d.toNat (List.mem_range.2 (by omega)))
    rwa [show ((d.toNat:Nat):Int) = d by omega] at this
  · have:=List.mem_range.1 hd
    exact decide_eq_true (h d (by omega) (by omega))
theorem hzV_range {l:List Fu.Fix} (h:mayFs l = true):0≤hzV l∧hzV l≤384:=by
  obtain ⟨h1,h2⟩:=mayFs_mem h
  unfold hzV
  rw [h]
  simp only [cond_true]
  have key:∀ l:List Fu.Fix,(∀ x ∈ l,mayF x = true)→0≤(l.map fun x=>x.S.C).sum∧(l.map fun x=>x.S.C).sum≤6 * l.length:=by
    intro l
    induction l with
    | nil=>intro _; simp
    | cons x l ih =>
      intro hl
      have h3:=ih fun y hy=>hl y (List.mem_cons_of_mem _ hy)
      have h4:=(mayF_C (hl x (by simp))).2
      simp only [List.map_cons,List.sum_cons,List.length_cons]
      omega
  have:=key l h2
  omega
def InvT (x:List Fu.Fix × Int):Prop:=mayFs x.1 = true∧(0≤x.2∧x.2≤384)∧x.2 < max 1 (hzV x.1)∧∀ d,x.2 < d→d < hzV x.1→sumOf x.1 d≤d∨sumOf x.1 d = sumOf x.1 x.2
theorem invT_first {l:List Fu.Fix} (h:mayFs l = true) (h1:1≤hzV l):InvT (l,lastV l (hzV l)):=by
  obtain ⟨_,h2⟩:=mayFs_mem h
  have h3:=hzV_range h
  obtain ⟨k1,k2,k3⟩:=lastV_spec h2 h1 (by omega)
  exact ⟨h,⟨k1,by simp only; omega⟩,by simp only; omega,fun d h4 h5=>.inr (k3 d (by simp only at h4; omega) (by simp only at h5; omega))⟩
theorem invT_zero {l:List Fu.Fix} {n:Int} (h:InvT (l,n)) (h0:sumOf l n≤n) (h1:sumOf l n = 0∨n = 0):testV l = true:=by
  obtain ⟨h2,h3,_,h4⟩:=h
  simp only at h2 h3 h4
  obtain ⟨_,hm⟩:=mayFs_mem h2
  have hz:sumOf l n = 0:=by
    rcases h1 with h1 | h1
    · exact h1
    · rw [h1]; exact sumOf_zero hm
  refine testV_iff.2 ⟨h2,fun d h5 h6=>?_⟩
  have hH:=hzV_range h2
  rcases Int.lt_or_le n d with h7 | h7
  · rcases h4 d h7 h6 with h8 | h8 <;> omega
  · have:=sumOf_mono hm h5 h7 (by omega)
    omega
theorem invT_over {l:List Fu.Fix} {n:Int} (h:InvT (l,n)) (h0:n < sumOf l n):testV l = false:=by
  obtain ⟨h2,h3,h5,_⟩:=h
  simp only at h2 h3 h5
  obtain ⟨_,hm⟩:=mayFs_mem h2
  cases ht:testV l with
  | false=>rfl
  | true =>
    have hn:0 < n:=by
      rcases Int.lt_or_le 0 n with h | h
      · exact h
      · have:n = 0:=by omega
        subst this
        rw [sumOf_zero hm] at h0; omega
    have:=(testV_iff.1 ht).2 n (by omega) (by omega)
    omega
theorem invT_less {l:List Fu.Fix} {n:Int} (h:InvT (l,n)) (h0:sumOf l n < n) (h1:0 < sumOf l n):InvT (l,lastV l (sumOf l n + 1))∧lastV l (sumOf l n + 1) < n:=by
  obtain ⟨h2,h3,h5,h4⟩:=h
  simp only at h2 h3 h4 h5
  obtain ⟨_,hm⟩:=mayFs_mem h2
  have hH:=hzV_range h2
  obtain ⟨k1,k2,k3⟩:=lastV_spec hm (n:=sumOf l n + 1) (by omega) (by omega)
  refine ⟨⟨h2,⟨k1,by simp only; omega⟩,by simp only; omega,fun d h6 h7=>?_⟩,by omega⟩
  simp only at h6 h7
  rcases Int.lt_or_le n d with h8 | h8
  · rcases h4 d h8 h7 with h9 | h9
    · exact .inl h9
    · exact .inl (by show sumOf l d≤d; omega)
  · rcases Int.lt_or_le (sumOf l n) d with h9 | h9
    · have:=sumOf_mono hm (n:=d) (n':=n) (by omega) h8 (by omega)
      exact .inl (by show sumOf l d≤d; omega)
    · exact .inr (k3 d (by omega) (by omega))
theorem invT_eq {l:List Fu.Fix} {n:Int} (h:InvT (l,n)) (h0:sumOf l n = n) (h1:n≠0):InvT (l,lastV l n)∧lastV l n < n:=by
  obtain ⟨h2,h3,h5,h4⟩:=h
  simp only at h2 h3 h4 h5
  obtain ⟨_,hm⟩:=mayFs_mem h2
  have hH:=hzV_range h2
  obtain ⟨k1,k2,k3⟩:=lastV_spec hm (n:=n) (by omega) (by omega)
  refine ⟨⟨h2,⟨k1,by simp only; omega⟩,by simp only; omega,fun d h6 h7=>?_⟩,by omega⟩
  simp only at h6 h7
  rcases Int.lt_or_le n d with h8 | h8
  · rcases h4 d h8 h7 with h9 | h9
    · exact .inl h9
    · exact .inl (by show sumOf l d≤d; omega)
  · rcases Int.lt_or_le d n with h9 | h9
    · exact .inr (k3 d (by omega) (by omega))
    · have:d = n:=by omega
      exact .inl (by show sumOf l d≤d; rw [this]; omega)
def TT (x:List Fu.Fix × Int):St:=⟨puts (J 40) [(0,.view .fix x.1),(3,.int .i64 x.2)],[],0⟩
def sT:List Sh:=sets (Js 40) [(0,.keep),(3,.int)]
def eT:List Sh:=sets (Js 40) [(2,.bool)]
def ET (b:Bool):Ex × St:=(.ret,⟨puts (J 40) [(2,.bool b)],[],0⟩)
def smallF (l:List Fu.Fix) (n:Int):Prop:=(l.length:Int) < 17592186044416∧-1099511627776≤n∧n≤1099511627776
theorem bT (l : List Fu.Fix) (n : Int) : roundJ c61 60 38 (restAt c61.P 38 0) (norm2 0 [] [] sT) (norm2 0 [] [] eT) (TT (l, n)) =
    .ite (n == 0) (.ret (ET true)) (.ite (decide (allV l n > n)) (.ret (ET false)) (.ite (decide (allV l n < n) && decide (allV l n > 0)) (.asrt (smallF l (IntKind.i64.wrap (allV l n + 1))) (.ret (.goto 0,TT (l,lastV l (IntKind.i64.wrap (allV l n + 1))))))
      (.ite (allV l n == n) (.asrt (smallF l n) (.ret (.goto 0,TT (l,lastV l n)))) (.ret (ET true))))):=by kernel_rfl
def gT (σ:St):Option (List Fu.Fix × Int) :=
  match nth σ.tmps 0,nth σ.tmps 3 with
  | .view .fix l,.int .i64 n=>some (l,n)
  | _,_=>none
def LxT (x:List Fu.Fix × Int):Tree (Ex × St):=.asrt (InvT x) (.ret (ET (testV x.1)))
def LT:LoopCon:=entry 0 (norm2 0 [] [] sT) TT gT LxT
theorem lT (hs:SubOf c61.P 38 (restAt c61.P 38 0)):SoundJump c61 (restAt c61.P 38 0) 0 LT:=by
  refine jump_rule3 (C:=c61) (g:=38) (l:=0) c61_good 60 0 _ _ (Weak.norm2 0 [] [] sT) (Weak.norm2 0 [] [] eT) hs TT LxT (fun x=>x.2.toNat) (fun x q h=>?_) entry_out
  obtain ⟨l,n⟩:=x
  obtain ⟨hI,h⟩:=Tree.out_asrt.1 h
  have h':ET (testV l) = q:=h
  subst h'
  have hI':=hI
  obtain ⟨h2,h3,_,_⟩:=hI'
  simp only at h2 h3
  obtain ⟨hlen,hm⟩:=mayFs_mem h2
  refine .of_eq (bT l n) ?_
  rw [allV_eq (show l.length≤1000 by omega)]
  have hs0:=sumOf_nonneg l n
  refine Tree.wp_ite.2 ⟨fun hz=>?_,fun hz=>Tree.wp_ite.2 ⟨fun ho=>?_,fun ho=>Tree.wp_ite.2 ⟨fun hl=>?_,fun hl=>Tree.wp_ite.2 ⟨fun he=>?_,fun he=>?_⟩⟩⟩⟩
  · have hz:n = 0:=by simpa using hz
    have:=invT_zero hI (by rw [hz,sumOf_zero hm]; exact Int.le_refl _) (.inr hz)
    show (_,_) = _
    rw [this]
    rfl
  · have:=invT_over hI (of_decide_eq_true ho)
    show (_,_) = _
    rw [this]
    rfl
  · simp only [Bool.and_eq_true,decide_eq_true_eq] at hl
    obtain ⟨k1,k2⟩:=invT_less hI hl.1 hl.2
    rw [wrap_fits (by omega) (by omega)]
    have k3:=k1.2.1
    simp only at k3
    exact ⟨⟨by omega,by omega,by omega⟩,rfl,(l,lastV l (sumOf l n + 1)),rfl,by simp only; omega,k1,rfl⟩
  · have he:sumOf l n = n:=by simpa using he
    have hz:n≠0:=by simpa using hz
    obtain ⟨k1,k2⟩:=invT_eq hI he hz
    have k3:=k1.2.1
    simp only at k3
    exact ⟨⟨by omega,by omega,by omega⟩,rfl,(l,lastV l n),rfl,by simp only; omega,k1,rfl⟩
  · have he:sumOf l n≠n:=by simpa using he
    have ho:=of_decide_eq_false ho
    simp only [Bool.and_eq_false_iff,decide_eq_false_iff_not] at hl
    have:=invT_zero hI (by omega) (.inl (by omega))
    show (_,_) = _
    rw [this]
    rfl
noncomputable def c62:Cfg:=c61.addJump 38 0 LT
theorem c62_good:GoodCfg c62:=c61_good.addJump ⟨by kernel_rfl,by kernel_rfl⟩ lT
def passT (l:List Fu.Fix) (n:Int):Tree (AV × List Blk) :=
  .ite (n == 0) (.ret (.blit true, [])) (.ite (decide (allV l n > n)) (.ret (.blit false, [])) (.ite (decide (allV l n < n) && decide (allV l n > 0)) (.asrt (smallF l (IntKind.i64.wrap (allV l n + 1)))
      (.asrt (0 = 0∧TT (l,lastV l (IntKind.i64.wrap (allV l n + 1))) = TT (l,lastV l (IntKind.i64.wrap (allV l n + 1)))) (.asrt (InvT (l,lastV l (IntKind.i64.wrap (allV l n + 1)))) (.ret (.bool (testV l),[])))))
      (.ite (allV l n == n) (.asrt (smallF l n) (.asrt (0 = 0∧TT (l,lastV l n) = TT (l,lastV l n)) (.asrt (InvT (l,lastV l n)) (.ret (.bool (testV l),[]))))) (.ret (.blit true,[])))))
def testT (l:List Fu.Fix):Tree (AV × List Blk) :=
  .asrt ((l.length:Int) < 17592186044416) (.ite (!mayFs l) (.ret (.blit false,[])) (.asrt ((l.length:Int) < 17592186044416) (.asrt (smallF l (hzV l)) (passT l (lastV l (hzV l))))))
theorem fTest (l:List Fu.Fix):callC c62 60 38 [.view .fix l] = testT l:=by kernel_rfl
theorem hzV_zero {l:List Fu.Fix} (h:mayFs l = true) (h0:hzV l≤0):l = []:=by
  obtain ⟨_,hm⟩:=mayFs_mem h
  unfold hzV at h0
  rw [h] at h0
  cases l with
  | nil=>rfl
  | cons x l =>
    have key:∀ l:List Fu.Fix,(∀ x ∈ l,mayF x = true)→0≤(l.map fun x=>x.S.C).sum:=by
      intro l
      induction l with
      | nil=>intro _; simp
      | cons x l ih =>
        intro hl
        have h3:=ih fun y hy=>hl y (List.mem_cons_of_mem _ hy)
        have h4:=(mayF_C (hl x (by simp))).2
        simp only [List.map_cons,List.sum_cons]
        omega
    have h1:=key l fun y hy=>hm y (List.mem_cons_of_mem _ hy)
    have h2:=(perOK_P (mayF_per (hm x (by simp))))
    simp only [cond_true,List.map_cons,List.sum_cons] at h0
    omega
theorem invT_begin {l:List Fu.Fix} (h:mayFs l = true):InvT (l,lastV l (hzV l)):=by
  rcases Int.lt_or_le 0 (hzV l) with h1 | h1
  · exact invT_first h (by omega)
  · have:=hzV_zero h h1
    subst this
    have e:hzV [] = 0:=by have:=(hzV_range h).1; omega
    refine ⟨h,⟨Int.le_refl _,by show (0:Int)≤384; omega⟩,by show (0:Int) < _; omega,fun d _ h3=>?_⟩
    simp only [e] at h3
    rename_i h2
    have h2':(0:Int) < d:=h2
    omega
theorem passT_rez {l:List Fu.Fix} {n:Int} (hI:InvT (l,n)):Rez (passT l n) (.bool (testV l),[]):=by
  have hI':=hI
  obtain ⟨h2,h3,_,_⟩:=hI'
  simp only at h2 h3
  obtain ⟨hlen,hm⟩:=mayFs_mem h2
  unfold passT
  rw [allV_eq (show l.length≤1000 by omega)]
  have hs0:=sumOf_nonneg l n
  refine ite_rez (fun hz=>?_) fun hz=>ite_rez (fun ho=>?_) fun ho=>ite_rez (fun hl=>?_) fun hl=>ite_rez (fun he=>?_) fun he=>?_
  · have hz:n = 0:=by simpa using hz
    exact .ret (.blit (invT_zero hI (by rw [hz,sumOf_zero hm]; exact Int.le_refl _) (.inr hz)).symm) rfl
  · exact .ret (.blit (invT_over hI (of_decide_eq_true ho)).symm) rfl
  · simp only [Bool.and_eq_true,decide_eq_true_eq] at hl
    obtain ⟨k1,k2⟩:=invT_less hI hl.1 hl.2
    rw [wrap_fits (by omega) (by omega)]
    exact .asrt ⟨by omega,by omega,by omega⟩ (.asrt ⟨rfl,rfl⟩ (.asrt k1 (.ret (.refl _) rfl)))
  · have he:sumOf l n = n:=by simpa using he
    have hz:n≠0:=by simpa using hz
    obtain ⟨k1,k2⟩:=invT_eq hI he hz
    exact .asrt ⟨by omega,by omega,by omega⟩ (.asrt ⟨rfl,rfl⟩ (.asrt k1 (.ret (.refl _) rfl)))
  · have he:sumOf l n≠n:=by simpa using he
    have ho:=of_decide_eq_false ho
    simp only [Bool.and_eq_false_iff,decide_eq_false_iff_not] at hl
    exact .ret (.blit (invT_zero hI (by omega) (.inl (by omega))).symm) rfl
theorem testT_rez {l:List Fu.Fix} (hl:(l.length:Int) < 17592186044416):Rez (testT l) (.bool (testV l),[]):=by
  refine .asrt hl (ite_rez (fun hm=>noB_rez ?_) fun hm=>.asrt hl (.asrt ?_ (passT_rez (invT_begin (by simpa using hm)))))
  · unfold testV
    rw [show mayFs l = false by simpa using hm]
    rfl
  · have:=hzV_range (l:=l) (by simpa using hm)
    exact ⟨hl,by omega,by omega⟩
def conTest:Con:=flatCon (d1 (dView .fix)) (fun l=>(l.length:Int) < 17592186044416) fun l=>.bool (testV l)
theorem conTest_valid:ValidCon c62.P 38 conTest:=flatCon_valid c62_good 60 (by kernel_rfl) fun l h=>⟨_,fTest l,testT_rez h⟩
noncomputable def c63:Cfg:=c62.addQuiet 38 conTest
theorem c63_good:GoodCfg c63:=c62_good.addQuiet conTest_valid flatCon_quiet
end Go.Fx
namespace Go.Fx
open Go
end Go.Fx
