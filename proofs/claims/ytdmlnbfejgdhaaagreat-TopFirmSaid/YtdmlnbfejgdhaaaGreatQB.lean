import Derived.Test.YtdmlnbfejgdhaaaGreatO4
import Derived.Test.YtdmlnbfejgdhaaaGreatD2
import Derived.Test.YtdmlnbfejgdhaaaGreatQA
namespace Go.Fx
open Go Go.Proofs
def fewI (B m k i:Int):Bool:=decide (onesV (andI .u64 (shrI .u64 B i) (maskV k)) < m)
abbrev AFn:=Fu.Ring × Int × Int
def TFn (x:AFn × Int):St:=⟨puts (J 35) [(1,.int .i64 x.1.2.1),(2,.int .i64 x.1.2.2),(7,.ptr 1 0),(8,.int .i64 x.2)],[(1,.cells (encRing x.1.1))],2⟩
def sFn:List Sh:=sets (Js 35) [(1,.int),(2,.int),(7,.keep),(8,.int)]
def eFn:List Sh:=sets (Js 35) [(6,.keep)]
def RFn:Ex × St:=(.ret,⟨puts (J 35) [(6,.blit false)],[],2⟩)
def EFn:Ex × St:=(.exit 0,⟨J 35,[],2⟩)
theorem bFn (x : AFn) (i : Int) : roundN c240 60 27 (loopAt c240.P 27 5) (norm2 2 [] [1] sFn) (norm2 2 [] [] eFn) (TFn (x, i)) =
    .ite (decide (IntKind.i64.wrap (i + x.2.2)≤x.1.N)) (.asrt (0≤i) (.asrt (0≤x.2.2) (.ite (fewI x.1.B x.2.1 x.2.2 i) (.ret RFn) (.ret (.normal,TFn (x,IntKind.i64.wrap (i + 1))))))) (.ret EFn):=by kernel_rfl
def gFn (σ:St):Option (AFn × Int) :=
  match nth σ.tmps 1,nth σ.tmps 2,nth σ.tmps 8,σ.heap with
  | .int .i64 m,.int .i64 k,.int .i64 i,[(_,.cells [.int .i64 n,.int .u64 b])]=>some ((⟨n,b⟩,m,k),i)
  | _,_,_,_=>none
def okFn (x:AFn × Int):Prop:=(0≤x.2∧x.2≤61∧x.1.1.N≤60∧1≤x.1.2.2∧x.1.2.2≤6)∧∀ i:Int,0≤i→i + x.1.2.2≤x.1.1.N→fewI x.1.1.B x.1.2.1 x.1.2.2 i = false
def LxFn (x:AFn × Int):Tree (Ex × St):=.asrt (okFn x) (.ret EFn)
def LFn:LoopCon:=entry 2 (norm2 2 [] [1] sFn) TFn gFn LxFn
theorem lFn (hs:SubOf c240.P 27 (.loop (loopAt c240.P 27 5))):SoundLoop c240 (loopAt c240.P 27 5) LFn:=by
  refine loop_rule3 (C:=c240) (g:=27) (l:=5) c240_good 60 2 _ _ (Weak.norm2 2 [] [1] sFn) (Weak.norm2 2 [] [] eFn) hs TFn LxFn (fun x=>(61 - x.2).toNat) (fun x q h=>?_) entry_out
  obtain ⟨x,i⟩:=x
  obtain ⟨⟨⟨h0,h1,h2,h3,h4⟩,hall⟩,h⟩:=Tree.out_asrt.1 h
  simp only at h0 h1 h2 h3 h4 hall
  refine .of_eq (bFn x i) ?_
  rw [wrap_fits (n:=i + x.2.2) (by omega) (by omega),wrap_fits (n:=i + 1) (by omega) (by omega)]
  refine Tree.wp_ite.2 ⟨fun hi=>?_,fun hi=>Rnd.out h⟩
  have hi:i + x.2.2≤x.1.N:=of_decide_eq_true hi
  refine ⟨h0,by omega,Tree.wp_ite.2 ⟨fun hb=>?_,fun _=>?_⟩⟩
  · rw [hall i h0 hi] at hb
    cases hb
  · exact Rnd.go (m:=fun x:AFn × Int=>(61 - x.2).toNat) (x:=(x,i)) (x,i + 1) (by simp only; omega) (Tree.out_asrt.2 ⟨⟨⟨by simp only; omega,by simp only; omega,h2,h3,h4⟩,hall⟩,h⟩)
noncomputable def c241:Cfg:=c240.addLoop 27 5 LFn
theorem c241_good:GoodCfg c241:=c240_good.addLoop (by unfold OneLoop; kernel_rfl) lFn
def FineP (h:Fu.Ring) (m k:Int):Prop:=mayP m k = true→∀ i:Int,0≤i→i + k≤(ofRing h).N→fewI (ofRing h).B m k i = false
theorem fFine (h : Fu.Ring) (m k : Int) : callC c241 60 27 [.agg (encRing h), .int .i64 m, .int .i64 k] =
    .ite (!mayP m k) (.ret (.blit true,[])) (.asrt (2 = 2∧TFn ((ofRing h,m,k),0) = TFn ((ofRing h,m,k),0)) (.asrt (okFn ((ofRing h,m,k),0)) (.ret (.blit true,[])))):=by kernel_rfl
def conFine:Con:=flatCon (d3 dRing dInt dInt) (fun x=>FineP x.1 x.2.1 x.2.2) fun _=>.bool true
theorem conFine_valid:ValidCon c241.P 27 conFine:=flatCon_valid c241_good 60 (by kernel_rfl) fun ⟨h,m,k⟩ hx=>⟨_,fFine h m k,by
  refine ite_rez (fun _=>.ret (.blit rfl) rfl) fun hm=>?_
  have hm:mayP m k = true:=by simpa using hm
  have hk:1≤k∧k≤6:=by
    unfold mayP at hm
    simp only [Bool.and_eq_true,decide_eq_true_eq] at hm
    omega
  have hN:=ofRing_N h
  exact .asrt ⟨rfl,rfl⟩ (.asrt ⟨⟨Int.le_refl _,by simp only; omega,hN.2,hk.1,hk.2⟩,hx hm⟩ (.ret (.blit rfl) rfl))⟩
noncomputable def c242:Cfg:=c241.addQuiet 27 conFine
theorem c242_good:GoodCfg c242:=c241_good.addQuiet conFine_valid flatCon_quiet
end Go.Fx
namespace Go.Fx
open Go
theorem rdT_map {T:List Fu.Task} (f:Fu.Task→Fu.Task) {i:Int} (h0:0≤i) (h1:i < T.length):rd .task (T.map f) i = f (rd .task T i):=by
  have hlt:i.toNat < T.length:=by omega
  simp [rd,hlt]
theorem rdT_upd {T:List Fu.Task} {i j:Int} (hi:0≤i∧i < T.length) (hj:0≤j∧j < T.length) (x:Fu.Task):rd .task (upd .task T i x) j = if i = j then x else rd .task T j:=by
  have h1:i.toNat < T.length:=by omega
  have h2:j.toNat < T.length:=by omega
  unfold upd
  by_cases e:i = j
  · subst e
    simp [rd,h1]
  · have e2:¬ i.toNat = j.toNat:=by omega
    simp [rd,h2,e,e2]
section
variable {w:Fu.World}
theorem Ahead.lenS (h:Ahead w) (d:List Int):(startW w d).T.length = w.T.length:=by
  have:((startW w d).T.map (·.ID)).length = (w.T.map (·.ID)).length:=by rw [h.startT d,begTs_keys]
  simpa using this
end
end Go.Fx
namespace Go.Fx
open Go
def bitB (B:Int) (p:Nat):Bool:=B.toNat.testBit p
def cntB (f:Nat→Bool):Nat→Int
  | 0=>0
  | n + 1=>cntB f n + (bif f n then 1 else 0)
theorem cntB_le {f g:Nat→Bool}:∀ (n:Nat),(∀ q,q < n→f q = true→g q = true)→cntB f n≤cntB g n
  | 0,_=>Int.le_refl _
  | n + 1,h=>by
    have ih:=cntB_le n fun q hq=>h q (by omega)
    have:=h n (by omega)
    unfold cntB
    cases hf:f n with
    | true=>rw [this hf]; simp only [cond_true]; omega
    | false=>cases g n <;> simp only [cond_true,cond_false] <;> omega
theorem cntB_cut {f:Nat→Bool} {k:Nat}:∀ n,k≤n→cntB (fun q=>decide (q < k) && f q) n = cntB f k
  | 0, h => by have : k = 0 := by omega
               subst this; rfl
  | n + 1,h=>by
    by_cases hk:k = n + 1
    · subst hk
      have:∀ j,j≤n + 1→cntB (fun q=>decide (q < n + 1) && f q) j = cntB f j:=by
        intro j
        induction j with
        | zero=>intro _; rfl
        | succ j ih =>
          intro hj
          unfold cntB
          rw [ih (by omega),decide_eq_true (show j < n + 1 by omega),Bool.true_and]
      exact this _ (Nat.le_refl _)
    · have ih:=cntB_cut (f:=f) n (show k≤n by omega)
      have e:cntB (fun q=>decide (q < k) && f q) (n + 1) = cntB (fun q=>decide (q < k) && f q) n + (bif decide (n < k) && f n then 1 else 0):=rfl
      rw [e,ih,decide_eq_false (show ¬ n < k by omega)]
      simp
theorem ones_small:∀ x:_root_.Fin 64,onesV (x.val:Int) = cntB (fun q=>x.val.testBit q) 6:=by decide +kernel
theorem andI_mask {n:Nat} (h:n < 18446744073709551616) {k:Nat} (hk:1≤k∧k≤6):andI .u64 (n:Int) (maskV k) = ((n % 2 ^ k:Nat):Int):=by
  have hm:∀ k:_root_.Fin 7,1≤k.val→(BitVec.ofInt 64 (maskV (k.val:Int))).toNat = 2 ^ k.val - 1:=by decide +kernel
  have e1:(BitVec.ofInt 64 (n:Int)).toNat = n:=by rw [BitVec.toNat_ofInt]; omega
  have e2:=hm ⟨k,by omega⟩ hk.1
  simp only at e2
  unfold andI
  show IntKind.u64.wrap (((BitVec.ofInt 64 (n:Int) &&& BitVec.ofInt 64 (maskV (k:Int))).toNat:Nat):Int) = _
  rw [BitVec.toNat_and,e1,e2,Nat.and_two_pow_sub_one_eq_mod]
  have h3:n % 2 ^ k≤n:=Nat.mod_le _ _
  show ((n % 2 ^ k:Nat):Int) % 18446744073709551616 = _
  exact Int.emod_eq_of_lt (Int.natCast_nonneg _) (by omega)
theorem shrI_nat {n:Nat} {i:Nat} (hi:i≤60):shrI .u64 (n:Int) (i:Int) = ((n >>> i:Nat):Int):=by
  unfold shrI
  rw [show min (i:Int).toNat (IntKind.bits .u64) = i by show min (i:Int).toNat 64 = i; omega]
  have hp:(0:Int) < 2 ^ i:=Int.pow_pos (by omega)
  rw [Int.fdiv_eq_ediv_of_nonneg _ (Int.le_of_lt hp),Nat.shiftRight_eq_div_pow,Int.natCast_ediv,Int.natCast_pow]
  rfl
theorem ones_win {B:Int} (h0:0≤B) (h1:B < 18446744073709551616) {i k:Nat} (hi:i≤60) (hk:1≤k∧k≤6):onesV (andI .u64 (shrI .u64 B i) (maskV k)) = cntB (fun q=>bitB B (i + q)) k:=by
  obtain ⟨n,rfl⟩:∃ n:Nat,B = n:=⟨B.toNat,by omega⟩
  have hn:n >>> i≤n:=by rw [Nat.shiftRight_eq_div_pow]; exact Nat.div_le_self _ _
  rw [shrI_nat hi,andI_mask (by omega) hk]
  have h64:(n >>> i) % 2 ^ k < 64:=by
    have h2:(n >>> i) % 2 ^ k < 2 ^ k:=Nat.mod_lt _ (Nat.two_pow_pos k)
    have h3:2 ^ k≤2 ^ 6:=Nat.pow_le_pow_right (by omega) hk.2
    omega
  have h4:=ones_small ⟨(n >>> i) % 2 ^ k,h64⟩
  simp only at h4
  rw [h4]
  have e:(fun q=>((n >>> i) % 2 ^ k).testBit q) = fun q=>decide (q < k) && bitB (n:Int) (i + q):=by
    funext q
    rw [Nat.testBit_mod_two_pow,Nat.testBit_shiftRight]
    rfl
  rw [e]
  exact cntB_cut (f:=fun q=>bitB (n:Int) (i + q)) 6 hk.2
theorem mandJ_step {m k:Int} (hm:1≤m) (hk:m≤k) (j:Int):cdiv ((j + 1) * m) k - cdiv (j * m) k = bif mandJ m k j then 1 else 0:=by
  have hk0:0 < k:=by omega
  obtain ⟨a1,a2⟩:=cdiv_spec (a:=(j + 1) * m) hk0
  obtain ⟨b1,b2⟩:=cdiv_spec (a:=j * m) hk0
  have e:(j + 1) * m = j * m + m:=by rw [Int.add_mul,Int.one_mul]
  have hle:cdiv (j * m) k≤cdiv ((j + 1) * m) k:=by rw [cdiv_le_iff hk0]; omega
  have hge:cdiv ((j + 1) * m) k≤cdiv (j * m) k + 1:=by
    rw [cdiv_le_iff hk0,e,Int.add_mul,Int.one_mul]
    omega
  unfold mandJ
  by_cases h:cdiv ((j + 1) * m) k > cdiv (j * m) k
  · rw [decide_eq_true h]; simp only [cond_true]; omega
  · rw [decide_eq_false h]; simp only [cond_false]; omega
theorem cnt_mand {m k:Int} (hm:1≤m) (hk:m≤k) (a:Int):∀ n:Nat,cntB (fun q=>mandJ m k (a - q)) n = cdiv ((a + 1) * m) k - cdiv ((a + 1 - n) * m) k
  | 0=>by simp [cntB]
  | n + 1=>by
    have ih:=cnt_mand hm hk a n
    have hs:=mandJ_step hm hk (a - n)
    unfold cntB
    rw [ih,← hs]
    have e1:a + 1 - ((n + 1:Nat):Int) = a - n:=by omega
    have e2:a - (n:Int) + 1 = a + 1 - n:=by omega
    rw [e1,e2]
    omega
theorem cnt_mand_all {m k:Int} (hm:1≤m) (hk:m≤k) (a:Int) {n:Nat} (hn:(n:Int) = k):cntB (fun q=>mandJ m k (a - q)) n = m:=by
  rw [cnt_mand hm hk,hn]
  have e:(a + 1) * m = (a + 1 - k) * m + m * k:=by rw [Int.sub_mul,Int.mul_comm m k]; omega
  rw [e,cdiv_add (by omega)]
  omega
theorem put_bits {h:Fu.Ring} (hr:ringOK h = true) (g:Bool):bitB (putRing h g).B 0 = g∧∀ p:Nat,p + 1 < 60→bitB (putRing h g).B (p + 1) = bitB h.B p:=by
  obtain ⟨_,h2,h3⟩:=ring_B hr
  obtain ⟨b,hb⟩:∃ n:Nat,h.B = n:=⟨h.B.toNat,by omega⟩
  have e:(putRing h g).B.toNat = (2 * b) % (2 * 576460752303423488) + (bif g then 1 else 0):=by
    rw [put_eq hr]
    simp only
    rw [hb]
    cases g <;> simp only [cond_true,cond_false] <;> omega
  rw [Nat.mul_mod_mul_left] at e
  refine ⟨?_,fun p hp=>?_⟩
  · unfold bitB
    rw [e,Nat.testBit_zero]
    cases g <;> simp
  · unfold bitB
    rw [e,Nat.testBit_succ]
    have e2:(2 * (b % 576460752303423488) + (bif g then 1 else 0)) / 2 = b % 576460752303423488:=by cases g <;> simp only [cond_true,cond_false] <;> omega
    rw [e2,show (576460752303423488:Nat) = 2 ^ 59 by decide,Nat.testBit_mod_two_pow,decide_eq_true (show p < 59 by omega),Bool.true_and,hb]
    rfl
def doneN (u:Fu.Task):Int:=bif u.J.On then u.N - 1 else u.N
def FInv (u:Fu.Task):Prop:=u.Kept = true→(∀ p:Nat,(p:Int) < u.H.N→mandJ u.S.M u.S.K (doneN u - 1 - p) = true→bitB u.H.B p = true)∧(u.J.On = true→u.J.D≤u.S.C)
theorem FInv.start {now:Int} {u:Fu.Task} (h:tkOK now u = true) (hn:u.N = 0):FInv u:=by
  intro _
  obtain ⟨k0,_⟩:=tkOK_iff.1 h
  obtain ⟨_,_,hr,hl,_,h6⟩:=mayK_iff.1 k0
  have hN:=mayK_N k0
  rw [overK_eq hN,minI_eq] at h6
  have hr':=ring_B hr
  cases ho:u.J.On with
  | true =>
    rw [ho,hn] at h6
    simp only [cond_true] at h6
    omega
  | false =>
    rw [ho,hn] at h6
    simp only [cond_false] at h6
    exact ⟨fun p hp=>by omega,fun h=>by cases h⟩
theorem FInv.begin {now n:Int} {t:Fu.Task} (h:tkOK now t = true) (h0:0≤now) (h1:now≤274877906944) (ha:t.At = now) (hn:1≤n∧n≤20) (hf:FInv t):FInv (begT t now n):=by
  obtain ⟨hoff,_,hw2,_⟩:=(beg_iff h h0 h1 hn).2 ha
  intro hk
  have hk':(t.Kept && decide (n≤t.S.C)) = true:=hk
  rw [Bool.and_eq_true,decide_eq_true_eq] at hk'
  obtain ⟨f1,_⟩:=hf hk'.1
  refine ⟨fun p hp hm=>f1 p hp ?_,fun _=>hk'.2⟩
  have e:doneN (begT t now n) = doneN t:=by
    show IntKind.i64.wrap (t.N + 1) - 1 = doneN t
    unfold doneN
    rw [hw2,hoff]
    simp only [cond_false]
    omega
  rw [e] at hm
  exact hm
theorem FInv.put {now:Int} {u v:Fu.Task} {g:Bool} (hTB:TB now u) (ho:u.J.On = true) (hf:FInv u) (hk:v.Kept = u.Kept) (hS:v.S = u.S) (hN:v.N = u.N) (hJ:v.J.On = false) (hH:v.H = putRing u.H g) (hg:u.Kept = true→g = true∨mandJ u.S.M u.S.K (u.N - 1) = false):FInv v:=by
  intro hv
  rw [hk] at hv
  obtain ⟨f1,_⟩:=hf hv
  obtain ⟨_,_,hr,_⟩:=hTB
  obtain ⟨b0,b1⟩:=put_bits hr g
  have hNN:=put_eq hr g
  refine ⟨fun p hp hm=>?_,fun h=>by rw [hJ] at h; cases h⟩
  have ed:doneN v = u.N:=by unfold doneN; rw [hJ,hN]; rfl
  have ed2:doneN u = u.N - 1:=by unfold doneN; rw [ho]; rfl
  rw [ed,hS] at hm
  rw [hH] at hp ⊢
  rw [hNN] at hp
  simp only at hp
  cases p with
  | zero =>
    rw [b0]
    rcases hg hv with h | h
    · exact h
    · have e:u.N - 1 - ((0:Nat):Int) = u.N - 1:=by simp
      rw [e,h] at hm
      cases hm
  | succ p =>
    rw [b1 p (by omega)]
    refine f1 p (by omega) ?_
    rw [ed2]
    have e:u.N - 1 - ((p + 1:Nat):Int) = u.N - 1 - 1 - (p:Int):=by omega
    rw [e] at hm
    exact hm
theorem FInv.run {now:Int} {u:Fu.Task} (hTB:TB now u) (hf:FInv u):FInv (runK u):=by
  unfold runK
  cases ho:u.J.On with
  | false=>exact hf
  | true =>
    simp only [cond_true]
    obtain ⟨_,_,jC,_,_,_⟩:=jobOK_on hTB.2.2.2.2.2.2.1 ho
    rcases step_cases ho with ⟨e1,e2,e3,e4⟩ | ⟨e1,e2⟩
    · rw [e1,e2]
      intro hk
      obtain ⟨f1,f2⟩:=hf hk
      refine ⟨fun p hp hm=>f1 p hp ?_,fun _=>f2 ho⟩
      have e:doneN { u with J:=ran1 u.J } = doneN u:=rfl
      rw [← e]
      exact hm
    · have hne:(stepF u.J == 0) = false:=by rcases e1 with ⟨e,_⟩ | ⟨e,_⟩ <;> rw [e] <;> rfl
      rw [hne,e2]
      refine FInv.put (g:=stepF u.J == 1) hTB ho hf rfl rfl rfl rfl rfl fun hk=>.inl ?_
      rcases e1 with ⟨e,_⟩ | ⟨e,e5,e6⟩
      · rw [e]; rfl
      · have:=(hf hk).2 ho
        omega
theorem FInv.end {now n:Int} {u:Fu.Task} (hTB:TB now u) (hf:FInv u) (hl:lateM n u = false):FInv (endK u n):=by
  unfold endK
  cases hb:overJ u.J n with
  | false=>exact hf
  | true =>
    simp only [cond_true]
    have ho:u.J.On = true:=by unfold overJ at hb; rw [Bool.and_eq_true] at hb; exact hb.1
    rw [lateM_eq,hb,Bool.true_and] at hl
    obtain ⟨jJ,_,_,_,_,jm⟩:=jobOK_on hTB.2.2.2.2.2.2.1 ho
    have hS:=hTB.2.2.2.2.2.2.1.1
    have hN:=(hTB.2.2.2.2.2.2.2.1 ho).2.2
    refine FInv.put (g:=false) hTB ho hf rfl rfl rfl rfl rfl fun _=>.inr ?_
    rw [jm] at hl
    have hmay:mayP u.S.M u.S.K = true:=by
      obtain ⟨_,_,⟨s1,s2,s3⟩,_⟩:=hS
      unfold mayP
      rw [decide_eq_true (show u.S.M≥1 by omega),decide_eq_true s2,decide_eq_true s3]
      rfl
    have hin:inJ u.J.J = true:=by
      unfold inJ
      rw [decide_eq_true (show u.J.J≥0 by omega),decide_eq_true jJ.2]
      rfl
    unfold onP at hl
    rw [hmay,hin,Bool.true_and,Bool.true_and] at hl
    rw [show u.N - 1 = u.J.J by omega]
    exact hl
theorem FInv.fine {now:Int} {u:Fu.Task} (h:tkOK now u = true) (hf:FInv u) (hk:u.Kept = true):FineP u.H u.S.M u.S.K:=by
  intro hm i hi0 hi1
  obtain ⟨k0,_⟩:=tkOK_iff.1 h
  obtain ⟨_,_,hr,_,_,h6⟩:=mayK_iff.1 k0
  have hN:=mayK_N k0
  rw [overK_eq hN,minI_eq] at h6
  have eo:ofRing u.H = u.H:=by unfold ofRing; rw [hr]; rfl
  rw [eo] at hi1 ⊢
  obtain ⟨⟨r0,r1⟩,r2,r3⟩:=ring_B hr
  have h60:=pow60 (n:=u.H.N.toNat) (by omega)
  unfold mayP at hm
  simp only [Bool.and_eq_true,decide_eq_true_eq] at hm
  obtain ⟨m1,m2,m3⟩:=hm
  obtain ⟨q,rfl⟩:∃ n:Nat,i = n:=⟨i.toNat,by omega⟩
  obtain ⟨kk,ek⟩:∃ n:Nat,u.S.K = n:=⟨u.S.K.toNat,by omega⟩
  unfold fewI
  refine decide_eq_false ?_
  rw [ek,ones_win r2 (by omega) (by omega) (by omega)]
  have hc:=cnt_mand_all m1 m2 (doneN u - 1 - q) (n:=kk) ek.symm
  have hle:=cntB_le (f:=fun p=>mandJ u.S.M u.S.K (doneN u - 1 - q - p)) (g:=fun p=>bitB u.H.B (q + p)) kk fun p hp hmm=>(hf hk).1 (q + p) (by omega) (by
    have e:doneN u - 1 - ((q + p:Nat):Int) = doneN u - 1 - q - p:=by omega
    rw [e]
    exact hmm)
  rw [hc] at hle
  omega
theorem Ahead.firm {w:Fu.World} (h:Ahead w) (hs:safeW w = true) (d:List Int) {i:Int} (hi:0≤i∧i < w.T.length) (hf:FInv (rd .task w.T i)):FInv (rd .task (tickW w d).T i):=by
  obtain ⟨_,hmiss⟩:=safe_tick h hs d
  have hlS:(startW w d).T.length = w.T.length:=h.lenS d
  have hlT:=h.tickLen d
  have hlM:(midW w d).1.T.length = w.T.length:=by
    have e1:(tickW w d).T.length = (midW w d).1.T.length:=by rw [h.tickT d,List.length_map]
    omega
  have hnow:=h.now
  have hnow0:=h.nowge
  -- who begins
  have hbeg:∀ (l:List Fu.Task) (d:List Int) (i:Nat),(∀ t ∈ l,tkOK w.Now t = true)→(hi:i < l.length)→FInv l[i]→FInv ((begTs w.Now d l).1[i]'(by rw [begTs_len]; exact hi)):=by
    intro l
    induction l with
    | nil=>intro d i _ hi; cases hi
    | cons t l ih =>
      intro d i hok hi hf
      have ht:=hok t (by simp)
      have hl:∀ u ∈ l,tkOK w.Now u = true:=fun u hu=>hok u (by simp [hu])
      have hr:=lastD_range ht d
      have hb:=beg_iff ht hnow0 (by omega) hr
      have e0:begTs w.Now d (t :: l) = bif begOK t w.Now (lastD t d) then (begT t w.Now (lastD t d) :: (begTs w.Now d.tail l).1,t.ID :: (begTs w.Now d.tail l).2) else (t :: (begTs w.Now d l).1,(begTs w.Now d l).2):=rfl
      cases hbo:begOK t w.Now (lastD t d) with
      | true =>
        have e:(begTs w.Now d (t :: l)).1 = begT t w.Now (lastD t d) :: (begTs w.Now d.tail l).1:=by rw [e0,hbo]; rfl
        rw [hbo] at hb
        have ha:t.At = w.Now:=of_decide_eq_true hb.1.symm
        cases i with
        | zero=>simp only [e,List.getElem_cons_zero]; exact FInv.begin ht hnow0 (by omega) ha hr hf
        | succ i=>simp only [e,List.getElem_cons_succ]; exact ih d.tail i hl (by simpa using hi) hf
      | false =>
        have e:(begTs w.Now d (t :: l)).1 = t :: (begTs w.Now d l).1:=by rw [e0,hbo]; rfl
        cases i with
        | zero=>simp only [e,List.getElem_cons_zero]; exact hf
        | succ i=>simp only [e,List.getElem_cons_succ]; exact ih d i hl (by simpa using hi) hf
  have hlt:i.toNat < w.T.length:=by omega
  have e0:rd .task w.T i = w.T[i.toNat]:=by simp [rd,hlt]
  rw [e0] at hf
  have h1:FInv (rd .task (startW w d).T i):=by
    have hs:=hbeg w.T d i.toNat (fun t ht=>(h.tasks t ht).1) hlt hf
    have e1:rd .task (begTs w.Now d w.T).1 i = (begTs w.Now d w.T).1[i.toNat]'(by rw [begTs_len]; exact hlt):=by
      have:i.toNat < (begTs w.Now d w.T).1.length:=by rw [begTs_len]; exact hlt
      simp [rd,this]
    rw [h.startT d,e1]
    exact hs
  have h2:FInv (rd .task (midW w d).1.T i):=by
    rcases mid_T h.may d with e | ⟨_,j,hj,_,_,e⟩
    · rw [e]; exact h1
    · rw [e,rdT_upd hj (by omega)]
      by_cases eij:j = i
      · rw [if_pos eij,eij]
        exact FInv.run ((h.TBs d).1 _ (rdT_mem hi.1 (by omega))) h1
      · rw [if_neg eij]; exact h1
  have hm:rd .task (midW w d).1.T i ∈ (midW w d).1.T:=rdT_mem hi.1 (by omega)
  rw [h.tickT d,rdT_map _ hi.1 (by omega)]
  refine FInv.end (h.midTB d _ hm) h2 ?_
  cases hl:lateM (w.Now + 1) (rd .task (midW w d).1.T i) with
  | false=>rfl
  | true =>
    exfalso
    have:(rd .task (midW w d).1.T i).ID ∈ tickM w d:=by
      show _ ∈ (((midW w d).1.T).filter (lateM (laterW (midW w d).1).Now)).map (·.ID)
      rw [h.later d]
      exact List.mem_map.2 ⟨_,List.mem_filter.2 ⟨hm,hl⟩,rfl⟩
    rw [hmiss] at this
    cases this
end Go.Fx
namespace Go.Fx
open Go Go.Proofs
def AllF (T:List Fu.Task):Prop:=∀ t ∈ T,FInv t
theorem turn_F (t:Fu.Task) (q:Fu.Spec) (p:Int) (h:FInv t):FInv (turnK t q p):=by
  unfold turnK
  cases ho:turnOK t q p with
  | false=>exact h
  | true =>
    unfold turnOK at ho
    simp only [Bool.not_eq_true',Bool.or_eq_false_iff,bne_eq_false_iff_eq] at ho
    obtain ⟨h1,h2,h3,_⟩:=ho
    intro hk
    obtain ⟨k1,k2⟩:=h hk
    refine ⟨fun p hp hm=>k1 p hp ?_,fun hj=>?_⟩
    · have e:mandJ q.M q.K (doneN t - 1 - p) = true:=hm
      rw [h2,h3] at e
      exact e
    · show t.J.D≤q.C
      rw [h1]
      exact k2 hj
theorem new_F {id:Int} {q:Fu.Spec} {p now:Int} (h:mayK (newK id q p now) now = true):FInv (newK id q p now):=FInv.start (now:=now) (tkOK_iff.2 ⟨h,fun h=>by cases h⟩) rfl
theorem tick_F {w:Fu.World} (h:Ahead w) (hs:safeW w = true) (d:List Int) (hF:AllF w.T):AllF (tickW w d).T:=by
  intro t ht
  obtain ⟨i,⟨i0,i1⟩,e⟩:=memRd (r:=.task) ht
  have hl:=h.tickLen d
  rw [← e]
  exact h.firm hs d ⟨i0,by omega⟩ (hF _ (rd_mem' (r:=.task) i0 (by omega)))
theorem do_firm {s:Fu.Serv} {o:Fu.Op} {b:Int} (hb:0≤b∧b≤1000) (hm:mayE s = true) (hl:lowN b s.W) (hF:AllF s.W.T):AllF (doV s o).1.W.T:=by
  have h:=do_case s o
  revert h
  generalize doV s o = x
  intro h
  cases h with
  | err e h=>exact hF
  | join hw hk hz=>simp only; rw [join_W]; exact hF
  | rate hw hk hz=>simp only; rw [rate_W]; exact hF
  | leave hw hk hz =>
    rcases leave_W s o.ID with e | e
    · simp only; rw [e]; exact hF
    · simp only; rw [e]; exact fun t ht=>hF t ((dropAT_sub o.ID s.W.T).subset ht)
  | once hw hk ha hf=>exact hF
  | tick hw hk =>
    have hm':=move_may hm
    have hA:=Ahead.of_low (safeE_may hm') hb.2 (move_low hb.1 hm hl)
    exact tick_F hA (mayE_safe hm').1 o.D (move_all FInv turn_F (fun id q p h=>new_F h) hF)
theorem fine_all {s:Fu.Serv} (hm:mayE s = true) (hF:AllF s.W.T):∀ t ∈ s.W.T,t.Kept = true→FineP t.H t.S.M t.S.K:=fun t ht hk=>FInv.fine ((mayW_iff.1 (safeE_may hm)).2.2.2.2.1 t ht) (hF t ht) hk
end Go.Fx
