import Derived.Test.YtgefkgmfbmdooaaGreatTY
import Derived.Test.YtgefkgmfbmdooaaGreatTZ
namespace Go.Fx
open Go Go.Proofs
abbrev AM13:=(List Fu.Ape × Int) × Int
def TM13 (x:AM13):St:=⟨puts (J 92) [(0,.view .ape x.1.1),(5,.int .i64 x.1.2),(6,.ptr 0 0),(7,.int .i64 x.2)],[(0,.cells (encApe (rd .ape x.1.1 x.1.2)))],1⟩
def sM13:List Sh:=sets (Js 92) [(0,.keep),(5,.int),(6,.keep),(7,.int)]
def eM13:List Sh:=sets (Js 92) [(0,.keep),(4,.keep),(5,.int)]
def RM13 (x:List Fu.Ape × Int):Ex × St:=(.ret,⟨puts (J 92) [(0,.view .ape x.1),(4,.blit false),(5,.int .i64 x.2)],[],1⟩)
def EM13 (x:List Fu.Ape × Int):Ex × St:=(.exit 2,⟨puts (J 92) [(0,.view .ape x.1),(5,.int .i64 x.2)],[],1⟩)
theorem bM13 (x : List Fu.Ape × Int) (k : Int) : roundN c128 60 35 (loopAt c128.P 35 10) (norm2 1 [] [0] sM13) (norm2 1 [] [] eM13) (TM13 (x, k)) =
    .ite (decide (k < x.2)) (.asrt (0≤k∧k < x.1.length) (.ite ((rd .ape x.1 k).ID == (rd .ape x.1 x.2).ID) (.ret (RM13 x)) (.ret (.normal,TM13 (x,IntKind.i64.wrap (k + 1)))))) (.ret (EM13 x)):=by kernel_rfl
def gM13 (σ:St):Option AM13 :=
  match nth σ.tmps 0,nth σ.tmps 5,nth σ.tmps 7 with
  | .view .ape l,.int .i64 i,.int .i64 k=>some ((l,i),k)
  | _,_,_=>none
def brkM13 (x:List Fu.Ape × Int) (k:Int):Option (List Fu.Ape × Int):=bif (rd .ape x.1 k).ID == (rd .ape x.1 x.2).ID then some x else none
def okM13 (x:List Fu.Ape × Int) (_:Int):Prop:=x.2≤x.1.length
def LM13:LoopCon:=boundB 1 (norm2 1 [] [0] sM13) TM13 gM13 (fun x=>x.2) okM13 (fun x _=>x) brkM13 ([],0) RM13 EM13
theorem lM13 (hs:SubOf c128.P 35 (.loop (loopAt c128.P 35 10))):SoundLoop c128 (loopAt c128.P 35 10) LM13 :=
  bound_loop (C:=c128) (g:=35) (l:=10) c128_good 60 1 _ _ (Weak.norm2 1 [] [0] sM13) (Weak.norm2 1 [] [] eM13) hs TM13 gM13 (fun x=>x.2) okM13 (fun x _=>x) brkM13 ([],0) RM13 EM13
    (fun _=>by intro h; cases h) (fun _=>by intro h; cases h) (fun _ _=>rfl)
    (fun x k h0 hk hm hok=>.of_eq (bM13 x k) (by
      unfold maxI64 at hm
      unfold okM13 at hok
      rw [wrap_fits (n:=k + 1) (by omega) (by omega)]
      refine (Tree.out_ite_true (decide_eq_true hk)).2 ⟨⟨h0,by omega⟩,?_⟩
      unfold brkM13
      cases hb:(rd .ape x.1 k).ID == (rd .ape x.1 x.2).ID with
      | true=>exact (Tree.out_ite_true rfl).2 rfl
      | false=>exact (Tree.out_ite_false rfl).2 rfl))
    (fun x k hk=>.of_eq (bM13 x k) ((Tree.out_ite_false (decide_eq_false (by omega))).2 rfl))
noncomputable def c129:Cfg:=c128.addLoop 35 10 LM13
theorem c129_good:GoodCfg c129:=c128_good.addLoop (by unfold OneLoop; kernel_rfl) lM13
def TN13 (x:List Fu.Ape × Int):St:=⟨puts (J 92) [(0,.view .ape x.1),(5,.int .i64 x.2)],[],0⟩
def sN13:List Sh:=sets (Js 92) [(0,.keep),(5,.int)]
def eN13:List Sh:=sets (Js 92) [(4,.keep)]
def badA (a:Fu.Ape):Bool:=decide (a.ID < 0) || (decide (a.ID > 549755813888) || (decide (a.Due < 1) || (decide (a.Due > 1099511627776) || (decide (a.C < 1) || (decide (a.C > 40) || (decide (a.V < 1) || (decide (a.V > 1000) || (decide (a.Ran < 0) || decide (a.Ran≥a.C)))))))))
theorem badA_eq (a:Fu.Ape):badA a = !apeOK a:=by
  cases h:badA a with
  | true =>
    cases h2:apeOK a with
    | false=>rfl
    | true =>
      have:=apeOK_iff.1 h2
      unfold badA at h
      simp only [Bool.or_eq_true,decide_eq_true_eq] at h
      omega
  | false =>
    unfold badA at h
    simp only [Bool.or_eq_false_iff,decide_eq_false_iff_not] at h
    rw [apeOK_iff.2 (by omega)]
    rfl
theorem foldI_same {X:Type}:∀ (n:Nat) (x:X) (i:Int),foldI (fun x _=>x) n x i = x
  | 0,_,_=>rfl
  | n + 1,x,i=>foldI_same n x (i + 1)
def in13 (x:List Fu.Ape × Int):Option (List Fu.Ape × Int):=brkI (fun x _=>x) brkM13 (x.2 - 0).toNat x 0
def RN13:Ex × St:=(.ret,⟨puts (J 92) [(4,.blit false)],[],0⟩)
def EN13:Ex × St:=(.exit 0,⟨puts (J 92) [],[],0⟩)
theorem bN13 (A : List Fu.Ape) (i : Int) : roundN c129 60 35 (loopAt c129.P 35 4) (norm2 0 [] [] sN13) (norm2 0 [] [] eN13) (TN13 (A, i)) =
    .ite (decide (i < A.length)) (.asrt (0≤i∧i < A.length) (.ite (badA (rd .ape A i)) (.ret RN13) (.asrt (1 = 1∧TM13 ((A,i),0) = TM13 ((A,i),0)) (.asrt (0≤(0:Int)∧i≤maxI64∧okI (fun x _=>x) brkM13 okM13 (i - 0).toNat (A,i) 0)
      (.ite (in13 (A,i)).isSome (.ret RN13) (.ret (.normal,TN13 ((foldI (fun x _=>x) (i - 0).toNat (A,i) 0).1,IntKind.i64.wrap ((foldI (fun x _=>x) (i - 0).toNat (A,i) 0).2 + 1))))))))) (.ret EN13):=by kernel_rfl
def gN13 (σ:St):Option (List Fu.Ape × Int) :=
  match nth σ.tmps 0,nth σ.tmps 5 with
  | .view .ape l,.int .i64 i=>some (l,i)
  | _,_=>none
def brkN13 (A:List Fu.Ape) (i:Int):Option Unit:=bif badA (rd .ape A i) || (in13 (A,i)).isSome then some () else none
def okN13 (_:List Fu.Ape) (_:Int):Prop:=True
def LN13:LoopCon:=boundB 0 (norm2 0 [] [] sN13) TN13 gN13 (fun A=>A.length) okN13 (fun x _=>x) brkN13 () (fun _=>RN13) (fun _=>EN13)
theorem lN13 (hs:SubOf c129.P 35 (.loop (loopAt c129.P 35 4))):SoundLoop c129 (loopAt c129.P 35 4) LN13 :=
  bound_loop (C:=c129) (g:=35) (l:=4) c129_good 60 0 _ _ (Weak.norm2 0 [] [] sN13) (Weak.norm2 0 [] [] eN13) hs TN13 gN13 (fun A=>A.length) okN13 (fun x _=>x) brkN13 () (fun _=>RN13) (fun _=>EN13)
    (fun _=>by intro h; cases h) (fun _=>by intro h; cases h) (fun _ _=>rfl)
    (fun A i h0 hi hm _=>.of_eq (bN13 A i) (by
      unfold maxI64 at hm
      rw [foldI_same,wrap_fits (n:=i + 1) (by omega) (by omega)]
      refine (Tree.out_ite_true (decide_eq_true hi)).2 ⟨⟨h0,hi⟩,?_⟩
      unfold brkN13
      cases hb:badA (rd .ape A i) with
      | true=>exact (Tree.out_ite_true rfl).2 rfl
      | false =>
        refine (Tree.out_ite_false rfl).2 ⟨⟨rfl,rfl⟩,⟨Int.le_refl _,by unfold maxI64; omega,okI_idA _ _ fun _ _ _=>Int.le_of_lt hi⟩,?_⟩
        cases hc:(in13 (A,i)).isSome with
        | true=>exact (Tree.out_ite_true rfl).2 rfl
        | false=>exact (Tree.out_ite_false rfl).2 rfl))
    (fun A i hi=>.of_eq (bN13 A i) ((Tree.out_ite_false (decide_eq_false (by omega))).2 rfl))
noncomputable def c130:Cfg:=c129.addLoop 35 4 LN13
theorem c130_good:GoodCfg c130:=c129_good.addLoop (by unfold OneLoop; kernel_rfl) lN13
def may13T (A:List Fu.Ape) (now:Int):Tree (AV × List Blk):=.ite (decide (now < 0) || (decide (now > 549755813888) || decide ((A.length:Int) > 4))) noB (.asrt (0 = 0∧TN13 (A,0) = TN13 (A,0)) (.asrt (0≤(0:Int)∧(A.length:Int)≤maxI64∧okI (fun x _=>x) brkN13 okN13 ((A.length:Int) - 0).toNat A 0)
  (optT () (brkI (fun x _=>x) brkN13 ((A.length:Int) - 0).toNat A 0) (fun _=>noB) (.ret (.blit true,[])))))
theorem fMay13 (A:List Fu.Ape) (now:Int):callC c130 60 35 [.view .ape A,.int .i64 now] = may13T A now:=by kernel_rfl
theorem rd_getA {A:List Fu.Ape} {n:Nat} (h:n < A.length):rd .ape A (n:Int) = A[n]:=by unfold rd; simp [h]
theorem rd_mem8 {A:List Fu.Ape} {i:Int} (h0:0≤i) (h1:i < A.length):rd .ape A i ∈ A:=by
  obtain ⟨n,rfl⟩:∃ n:Nat,i = n:=⟨i.toNat,by omega⟩
  rw [rd_getA (by omega)]
  exact List.getElem_mem _
theorem in13_none {A:List Fu.Ape} {i:Int}:(in13 (A,i)).isSome = false↔∀ k:Int,0≤k→k < i→(rd .ape A k).ID≠(rd .ape A i).ID:=by
  rw [Option.isSome_eq_false_iff,Option.isNone_iff_eq_none]
  unfold in13
  rw [brkI_idA]
  constructor
  · intro h k h0 h1 he
    have:=h k h0 (by simp only; omega)
    unfold brkM13 at this
    simp only at this
    rw [he,beq_self_eq_true] at this
    cases this
  · intro h k h0 h1
    unfold brkM13
    simp only
    simp only at h1
    rw [beq_eq_false_iff_ne.2 (h k h0 (by omega))]
    rfl
theorem brk13_none {A:List Fu.Ape}:brkI (fun x _=>x) brkN13 ((A.length:Int) - 0).toNat A 0 = none↔(∀ a ∈ A,apeOK a = true)∧(idsA A).Nodup:=by
  rw [brkI_idA]
  unfold idsA
  rw [nodup_rd]
  have key:∀ i,brkN13 A i = none↔apeOK (rd .ape A i) = true∧∀ k:Int,0≤k→k < i→(rd .ape A k).ID≠(rd .ape A i).ID:=fun i=>by
    rw [← in13_none]
    unfold brkN13
    rw [badA_eq]
    cases apeOK (rd .ape A i) <;> cases (in13 (A,i)).isSome <;> simp
  constructor
  · intro h
    refine ⟨fun a ha=>?_,fun i k h0 h1 h2=>((key i).1 (h i (by omega) (by omega))).2 k h0 h1⟩
    obtain ⟨n,hn,rfl⟩:=List.getElem_of_mem ha
    have:=((key n).1 (h n (by omega) (by omega))).1
    rwa [rd_getA hn] at this
  · rintro ⟨h1,h2⟩ i h0 hi
    have hi':i < (A.length:Int):=by omega
    refine (key i).2 ⟨h1 _ (rd_mem8 h0 hi'),fun k k0 k1=>h2 i k k0 k1 (by omega)⟩
theorem may13T_rez {A:List Fu.Ape} {now:Int} (hl:(A.length:Int) < 17592186044416):Rez (may13T A now) (.bool (mayA A now),[]):=by
  refine ite_rez (fun h=>noB_rez ?_) fun h=>.asrt ⟨rfl,rfl⟩ (.asrt ⟨Int.le_refl _,by unfold maxI64; omega,okI_idA _ _ fun _ _ _=>trivial⟩ ?_)
  · cases hm:mayA A now with
    | false=>rfl
    | true =>
      have:=mayA_iff.1 hm
      simp only [Bool.or_eq_true,decide_eq_true_eq] at h
      omega
  · simp only [Bool.or_eq_false_iff,decide_eq_false_iff_not] at h
    have hk:mayA A now = true↔_:=mayA_iff
    cases hb:brkI (fun x _=>x) brkN13 ((A.length:Int) - 0).toNat A 0 with
    | some u =>
      refine .itet rfl (noB_rez ?_)
      cases hm:mayA A now with
      | false=>rfl
      | true =>
        obtain ⟨h1,h2,_⟩:=hk.1 hm
        rw [brk13_none.2 ⟨h1,h2⟩] at hb
        cases hb
    | none =>
      obtain ⟨h1,h2⟩:=brk13_none.1 hb
      exact .itee rfl (.ret (.blit (hk.2 ⟨h1,h2,by omega,by omega,by omega⟩).symm) rfl)
theorem conMay13_valid:ValidCon c130.P 35 conDm:=flatCon_valid c130_good 60 (by kernel_rfl) fun x h=>⟨_,fMay13 x.1 x.2,may13T_rez h⟩
noncomputable def c131:Cfg:=c130.addQuiet 35 conDm
theorem c131_good:GoodCfg c131:=c130_good.addQuiet conMay13_valid flatCon_quiet
end Go.Fx
