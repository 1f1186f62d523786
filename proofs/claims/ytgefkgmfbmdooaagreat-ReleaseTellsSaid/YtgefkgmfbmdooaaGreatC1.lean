import Derived.Test.YtgefkgmfbmdooaaGreatFx5
import Derived.Test.YtgefkgmfbmdooaaGreatProg
import Derived.KernelRfl
namespace Go.Fx
open Go Go.Proofs
noncomputable def rtyS:TypeId→Option RTy
  | 3=>some (.int .i64)
  | 5=>some (.int .u8)
  | 43=>some (.int .u64)
  | 4=>some (.bool)
  | 9=>some (.str)
  | 26=>some (.ints .i64)
  | 42=>some (.spec)
  | 68=>some (.fix)
  | 60=>some (.live)
  | 49=>some (.ape)
  | 47=>some (.task)
  | _=>none
noncomputable def c0:Cfg:=⟨Tryz.prog,rtyS,[],[],[],[],[],[],[]⟩
theorem c0_good:GoodCfg c0:=GoodCfg.base (by kernel_rfl) rfl rfl rfl rfl rfl rfl
end Go.Fx
namespace Go.Fx
open Go
def cdiv (a b:Int):Int:=-((-a) / b)
theorem cdiv_spec {a b:Int} (hb:0 < b):a≤cdiv a b * b∧cdiv a b * b < a + b:=by
  unfold cdiv
  have h1:=Int.mul_ediv_add_emod (-a) b
  have h2:=Int.emod_nonneg (-a) (show b≠0 by omega)
  have h3:=Int.emod_lt_of_pos (-a) hb
  have h4:-(-a / b) * b = -(b * (-a / b)):=by rw [Int.neg_mul,Int.mul_comm]
  omega
theorem cdiv_unique {a b n:Int} (hb:0 < b) (h1:a≤n * b) (h2:n * b < a + b):cdiv a b = n:=by
  obtain ⟨h3,h4⟩:=cdiv_spec (a:=a) hb
  have h5:cdiv a b * b < (n + 1) * b:=by rw [Int.add_mul]; omega
  have h6:n * b < (cdiv a b + 1) * b:=by rw [Int.add_mul]; omega
  have h7:=Int.lt_of_mul_lt_mul_right h5 (by omega)
  have h8:=Int.lt_of_mul_lt_mul_right h6 (by omega)
  omega
theorem cdiv_le_iff {a b n:Int} (hb:0 < b):cdiv a b≤n↔a≤n * b:=by
  obtain ⟨h3,h4⟩:=cdiv_spec (a:=a) hb
  constructor
  · intro h
    have:=Int.mul_le_mul_of_nonneg_right h (show 0≤b by omega)
    omega
  · intro h
    have h5:cdiv a b * b < (n + 1) * b:=by rw [Int.add_mul]; omega
    have h7:=Int.lt_of_mul_lt_mul_right h5 (by omega)
    omega
theorem cdiv_mono {a a' b:Int} (hb:0 < b) (h:a≤a'):cdiv a b≤cdiv a' b:=by
  rw [cdiv_le_iff hb]
  have:=(cdiv_spec (a:=a') hb).1
  omega
theorem cdiv_nonneg {a b:Int} (hb:0 < b) (h:0≤a):0≤cdiv a b:=by
  obtain ⟨h3,_⟩:=cdiv_spec (a:=a) hb
  rcases Int.lt_or_le (cdiv a b) 0 with h1 | h1
  · have:=Int.mul_neg_of_neg_of_pos h1 hb
    omega
  · exact h1
theorem cdiv_le_self {a b:Int} (hb:0 < b) (h:0≤a):cdiv a b≤a:=by
  rw [cdiv_le_iff hb]
  have:=Int.mul_le_mul_of_nonneg_left (show 1≤b by omega) h
  omega
theorem tdiv_up {a b:Int} (ha:0≤a) (hb:0 < b):a.tdiv b + minI (a.tmod b) 1 = cdiv a b:=by
  rw [Int.tdiv_eq_ediv_of_nonneg ha,Int.tmod_eq_emod_of_nonneg ha]
  have h1:=Int.mul_ediv_add_emod a b
  have h2:=Int.emod_nonneg a (show b≠0 by omega)
  have h3:=Int.emod_lt_of_pos a hb
  symm
  unfold minI
  split
  · refine cdiv_unique hb ?_ ?_ <;> rw [Int.add_mul,Int.mul_comm] <;> omega
  · rcases (show a % b = 0∨a % b = 1 by omega) with h4 | h4
    · rw [h4] at h1 ⊢
      refine cdiv_unique hb ?_ ?_ <;> rw [Int.add_mul,Int.mul_comm] <;> omega
    · rw [h4] at h1 ⊢
      refine cdiv_unique hb ?_ ?_ <;> rw [Int.add_mul,Int.mul_comm] <;> omega
def ratioOK (a b:Int):Bool:=decide (a≥0) && decide (a≤4611686018427387904) && (decide (b≥1) && decide (b≤4611686018427387904))
def ceilV (a b:Int):Int:=bif ratioOK a b then cdiv a b else 0
theorem ratioOK_iff {a b:Int}:ratioOK a b = true↔(0≤a∧a≤4611686018427387904)∧1≤b∧b≤4611686018427387904:=by
  simp [ratioOK]
theorem ceilV_of {a b:Int} (h0:0≤a) (h1:a≤4611686018427387904) (h2:1≤b) (h3:b≤4611686018427387904):ceilV a b = cdiv a b:=by
  have:ratioOK a b = true:=ratioOK_iff.2 ⟨⟨h0,h1⟩,h2,h3⟩
  simp [ceilV,this]
def mayP (m k:Int):Bool:=decide (m≥1) && (decide (m≤k) && decide (k≤6))
def inJ (n:Int):Bool:=decide (n≥0) && decide (n≤1099511627776)
def mandJ (m k j:Int):Bool:=decide (cdiv ((j + 1) * m) k > cdiv (j * m) k)
def onP (m k j:Int):Bool:=mayP m k && (inJ j && mandJ m k j)
theorem cdiv_add {a b q:Int} (hb:0 < b):cdiv (a + q * b) b = cdiv a b + q:=by
  obtain ⟨h1,h2⟩:=cdiv_spec (a:=a) hb
  refine cdiv_unique hb ?_ ?_ <;> rw [Int.add_mul] <;> omega
theorem mandJ_mod {m k j:Int} (hk:0 < k):mandJ m k j = mandJ m k (j % k):=by
  have h1:=Int.mul_ediv_add_emod j k
  have e1:j * m = j % k * m + (j / k * m) * k:=by
    conv=>lhs; rw [← h1]
    rw [Int.add_mul,Int.add_comm,Int.mul_assoc,Int.mul_comm k,Int.mul_assoc]
  have e2:(j + 1) * m = (j % k + 1) * m + (j / k * m) * k:=by rw [Int.add_mul,Int.add_mul,e1]; omega
  unfold mandJ
  rw [e1,e2,cdiv_add hk,cdiv_add hk]
  congr 1
  apply propext
  omega
def evenJ (m k j:Int):Bool:=decide (j * m % k = 0) || decide (j * m % k > k - m)
theorem mandJ_even {m k j:Int} (hm:1≤m) (hk:m≤k):mandJ m k j = evenJ m k j:=by
  have h1:=Int.mul_ediv_add_emod (j * m) k
  have h2:=Int.emod_nonneg (j * m) (show k≠0 by omega)
  have h3:=Int.emod_lt_of_pos (j * m) (show 0 < k by omega)
  have e1:j * m = j * m % k + (j * m / k) * k:=by rw [Int.mul_comm (j * m / k)]; omega
  have e2:(j + 1) * m = (j * m % k + m) + (j * m / k) * k:=by rw [Int.add_mul,Int.one_mul]; omega
  have hk0:0 < k:=by omega
  have c1:cdiv (j * m) k = cdiv (j * m % k) k + j * m / k:=(congrArg (fun x=>cdiv x k) e1).trans (cdiv_add hk0)
  have c2:cdiv ((j + 1) * m) k = cdiv (j * m % k + m) k + j * m / k:=(congrArg (fun x=>cdiv x k) e2).trans (cdiv_add hk0)
  unfold mandJ evenJ
  rw [c1,c2,Bool.eq_iff_iff]
  simp only [Bool.or_eq_true,decide_eq_true_eq]
  by_cases h0:j * m % k = 0
  · have d1:cdiv (j * m % k) k = 0:=cdiv_unique hk0 (by omega) (by omega)
    have d2:cdiv (j * m % k + m) k = 1:=cdiv_unique hk0 (by omega) (by omega)
    constructor
    · intro _; exact .inl h0
    · intro _; omega
  · have d1:cdiv (j * m % k) k = 1:=cdiv_unique hk0 (by omega) (by omega)
    by_cases h4:j * m % k > k - m
    · have d2:cdiv (j * m % k + m) k = 2:=cdiv_unique hk0 (by omega) (by omega)
      constructor
      · intro _; exact .inr h4
      · intro _; omega
    · have d2:cdiv (j * m % k + m) k = 1:=cdiv_unique hk0 (by omega) (by omega)
      constructor
      · intro h; omega
      · intro h; rcases h with h | h <;> omega
end Go.Fx
namespace Go.Fx
open Go Go.Proofs
def noCeil:Tree (AV × List Blk):=.ret (.tup [.lit .i64 0,.blit false],[])
theorem fCeil (a b:Int):callC c0 60 90 [.int .i64 a,.int .i64 b] =
  .ite (decide (a≥0) && decide (a≤4611686018427387904)) (.ite (!(decide (b≥1) && decide (b≤4611686018427387904))) noCeil
    (.asrt (b≠0) (.asrt (b≠0) (.ret (.tup [.int .i64 (IntKind.i64.wrap (IntKind.i64.wrap (a.tdiv b) + minI (a.tmod b) 1)),.blit true],[]))))) noCeil:=by kernel_rfl
def conCeil:Con:=plainCon (d2 dInt dInt) fun x=>.tup [.int .i64 (ceilV x.1 x.2),.bool (ratioOK x.1 x.2)]
theorem noCeil_rez {a b:Int} (h:ratioOK a b = false):Rez noCeil (.tup [.int .i64 (ceilV a b),.bool (ratioOK a b)],[]) :=
  .ret (.tup (.cons (.lit (by simp [ceilV,h])) (.cons (.blit h.symm) .nil))) rfl
theorem conCeil_valid:ValidCon c0.P 90 conCeil:=plainCon_valid c0_good 60 (by kernel_rfl) fun ⟨a,b⟩=>⟨_,fCeil a b,by
  cases h1:(decide (a≥0) && decide (a≤4611686018427387904)) with
  | false=>exact .itee rfl (noCeil_rez (by unfold ratioOK; rw [h1]; rfl))
  | true =>
    refine .itet rfl ?_
    cases h2:(decide (b≥1) && decide (b≤4611686018427387904)) with
    | false=>exact .itet rfl (noCeil_rez (by unfold ratioOK; rw [h1,h2]; rfl))
    | true =>
      have hr:ratioOK a b = true:=by unfold ratioOK; rw [h1,h2]; rfl
      obtain ⟨⟨h3,h4⟩,h5,h6⟩:=ratioOK_iff.1 hr
      refine .itee rfl (.asrt (by omega) (.asrt (by omega) (.ret (.tup (.cons (.eq ?_) (.cons (.blit hr.symm) .nil))) rfl)))
      have e1:IntKind.i64.wrap (a.tdiv b) = a.tdiv b:=by
        rw [Int.tdiv_eq_ediv_of_nonneg h3]
        have:=Int.ediv_nonneg h3 (show 0≤b by omega)
        have:=Int.ediv_le_self b h3
        exact wrap_fits (by omega) (by omega)
      rw [e1,tdiv_up h3 (by omega),ceilV_of h3 h4 h5 h6]
      have:=cdiv_nonneg (b:=b) (by omega) h3
      have:=cdiv_le_self (b:=b) (by omega) h3
      rw [wrap_fits (by omega) (by omega)]⟩
noncomputable def c1:Cfg:=c0.addQuiet 90 conCeil
theorem c1_good:GoodCfg c1:=c0_good.addQuiet conCeil_valid plainCon_quiet
end Go.Fx
namespace Go.Fx
open Go Go.Proofs
def noB:Tree (AV × List Blk):=.ret (.blit false,[])
def wJ (m k r:Int):Bool:=decide (ceilV (IntKind.i64.wrap ((r + 1) * m)) k > ceilV (IntKind.i64.wrap (r * m)) k)
def onT (m k j:Int) (c:Bool) (w:List Bool):Tree (AV × List Blk) :=
  .ite (decide (m≥1) && c) (.ite (decide (j≥0) && decide (j≤1099511627776)) (.asrt (0≤j.tmod k∧j.tmod k < 6) (.ret (.bool (w.getD (j.tmod k).toNat false),[]))) noB) noB
theorem fOn1 (m j:Int):callC c1 60 72 [.int .i64 m,.lit .i64 1,.int .i64 j] = onT m 1 j (decide (m≤1)) [wJ m 1 0,false,false,false,false,false]:=by kernel_rfl
theorem fOn2 (m j:Int):callC c1 60 72 [.int .i64 m,.lit .i64 2,.int .i64 j] = onT m 2 j (decide (m≤2)) [wJ m 2 0,wJ m 2 1,false,false,false,false]:=by kernel_rfl
theorem fOn3 (m j:Int):callC c1 60 72 [.int .i64 m,.lit .i64 3,.int .i64 j] = onT m 3 j (decide (m≤3)) [wJ m 3 0,wJ m 3 1,wJ m 3 2,false,false,false]:=by kernel_rfl
theorem fOn4 (m j:Int):callC c1 60 72 [.int .i64 m,.lit .i64 4,.int .i64 j] = onT m 4 j (decide (m≤4)) [wJ m 4 0,wJ m 4 1,wJ m 4 2,wJ m 4 3,false,false]:=by kernel_rfl
theorem fOn5 (m j:Int):callC c1 60 72 [.int .i64 m,.lit .i64 5,.int .i64 j] = onT m 5 j (decide (m≤5)) [wJ m 5 0,wJ m 5 1,wJ m 5 2,wJ m 5 3,wJ m 5 4,false]:=by kernel_rfl
theorem fOn6 (m j:Int):callC c1 60 72 [.int .i64 m,.lit .i64 6,.int .i64 j] = onT m 6 j (decide (m≤6)) [wJ m 6 0,wJ m 6 1,wJ m 6 2,wJ m 6 3,wJ m 6 4,wJ m 6 5]:=by kernel_rfl
noncomputable def onRest (m k j:Int):Tree (AV × List Blk):=match callC c1 60 72 [.int .i64 m,.int .i64 k,.int .i64 j] with | .ite _ t _=>t | _=>.fail
theorem fOn (m k j:Int):callC c1 60 72 [.int .i64 m,.int .i64 k,.int .i64 j] = .ite (mayP m k) (onRest m k j) noB:=by kernel_rfl
theorem wJ_eq {m k r:Int} (hm:1≤m) (hk:m≤k) (h6:k≤6) (h0:0≤r) (h1:r < k):wJ m k r = mandJ m k r:=by
  have a1:0≤r * m:=Int.mul_nonneg h0 (by omega)
  have a2:r * m≤r * 6:=Int.mul_le_mul_of_nonneg_left (by omega) h0
  have a3:(r + 1) * m = r * m + m:=by rw [Int.add_mul,Int.one_mul]
  unfold wJ mandJ
  rw [wrap_fits (by omega) (by omega),wrap_fits (by omega) (by omega),ceilV_of (by omega) (by omega) (by omega) (by omega),ceilV_of a1 (by omega) (by omega) (by omega)]
theorem onT_rez {m k j:Int} {c:Bool} {w:List Bool} (hc:c = decide (m≤k)) (h6:k≤6) (hw:∀ r:Nat,(r:Int) < k→1≤m→m≤k→w.getD r false = mandJ m k r):Rez (onT m k j c w) (.bool (onP m k j),[]):=by
  subst hc
  have hp:mayP m k = (decide (m≥1) && decide (m≤k)):=by unfold mayP; rw [decide_eq_true h6,Bool.and_true]
  unfold onT onP
  rw [hp]
  cases h1:(decide (m≥1) && decide (m≤k)) with
  | false=>exact .itee rfl (.ret (.blit rfl) rfl)
  | true =>
    simp only [Bool.and_eq_true,decide_eq_true_eq] at h1
    refine .itet rfl ?_
    show Rez (.ite (inJ j) _ _) _
    cases h2:inJ j with
    | false=>exact .itee rfl (.ret (.blit rfl) rfl)
    | true =>
      have h3:0≤j:=by simp [inJ] at h2; omega
      have e:j.tmod k = j % k:=Int.tmod_eq_emod_of_nonneg h3
      have h4:=Int.emod_nonneg j (show k≠0 by omega)
      have h5:=Int.emod_lt_of_pos j (show 0 < k by omega)
      refine .itet rfl (.asrt (by rw [e]; omega) (.ret (.eq ?_) rfl))
      rw [e,hw (j % k).toNat (by omega) (by omega) h1.2,show (((j % k).toNat:Nat):Int) = j % k by omega,← mandJ_mod (by omega)]
      rfl
def conOn:Con:=plainCon (d3 dInt dInt dInt) fun x=>.bool (onP x.1 x.2.1 x.2.2)
theorem conOn_valid:ValidCon c1.P 72 conOn:=plainCon_validA c1_good 60 (by kernel_rfl) fun ⟨m,k,j⟩=>by
  have toK:∀ n:Int,k = n→AsArgs ((d3 dInt dInt dInt).enc (m,k,j)) [.int .i64 m,.lit .i64 n,.int .i64 j]:=fun n h=>.cons (.refl _) (.cons (.toLit h) (.cons (.refl _) .nil))
  have six:∀ r:Nat,(r:Int) < 6→r = 0∨r = 1∨r = 2∨r = 3∨r = 4∨r = 5:=fun r h=>by omega
  by_cases h1:k = 1
  · subst h1
    refine ⟨_,_,toK 1 rfl,fOn1 m j,onT_rez rfl (by omega) fun r hr hm hk=>?_⟩
    have:r = 0:=by omega
    subst this; exact wJ_eq hm hk (by omega) (by omega) (by omega)
  by_cases h2:k = 2
  · subst h2
    refine ⟨_,_,toK 2 rfl,fOn2 m j,onT_rez rfl (by omega) fun r hr hm hk=>?_⟩
    rcases (show r = 0∨r = 1 by omega) with rfl | rfl <;> exact wJ_eq hm hk (by omega) (by omega) (by omega)
  by_cases h3:k = 3
  · subst h3
    refine ⟨_,_,toK 3 rfl,fOn3 m j,onT_rez rfl (by omega) fun r hr hm hk=>?_⟩
    rcases (show r = 0∨r = 1∨r = 2 by omega) with rfl | rfl | rfl <;> exact wJ_eq hm hk (by omega) (by omega) (by omega)
  by_cases h4:k = 4
  · subst h4
    refine ⟨_,_,toK 4 rfl,fOn4 m j,onT_rez rfl (by omega) fun r hr hm hk=>?_⟩
    rcases (show r = 0∨r = 1∨r = 2∨r = 3 by omega) with rfl | rfl | rfl | rfl <;> exact wJ_eq hm hk (by omega) (by omega) (by omega)
  by_cases h5:k = 5
  · subst h5
    refine ⟨_,_,toK 5 rfl,fOn5 m j,onT_rez rfl (by omega) fun r hr hm hk=>?_⟩
    rcases (show r = 0∨r = 1∨r = 2∨r = 3∨r = 4 by omega) with rfl | rfl | rfl | rfl | rfl <;> exact wJ_eq hm hk (by omega) (by omega) (by omega)
  by_cases h6:k = 6
  · subst h6
    refine ⟨_,_,toK 6 rfl,fOn6 m j,onT_rez rfl (by omega) fun r hr hm hk=>?_⟩
    rcases (show r = 0∨r = 1∨r = 2∨r = 3∨r = 4∨r = 5 by omega) with rfl | rfl | rfl | rfl | rfl | rfl <;> exact wJ_eq hm hk (by omega) (by omega) (by omega)
  have hn:mayP m k = false:=by
    cases h:mayP m k with
    | false=>rfl
    | true=>simp [mayP] at h; omega
  refine ⟨_,_,AsArgs.refl _,fOn m k j,.itee hn (.ret (.blit ?_) rfl)⟩
  simp [onP,hn]
noncomputable def c2:Cfg:=c1.addQuiet 72 conOn
theorem c2_good:GoodCfg c2:=c1_good.addQuiet conOn_valid plainCon_quiet
theorem fPatMay (m k:Int):callC c2 60 101 [.int .i64 m,.int .i64 k] = .ret (.bool (mayP m k),[]):=by kernel_rfl
def conPatMay:Con:=plainCon (d2 dInt dInt) fun x=>.bool (mayP x.1 x.2)
theorem conPatMay_valid:ValidCon c2.P 101 conPatMay:=plainCon_valid c2_good 60 (by kernel_rfl) fun x=>⟨_,fPatMay x.1 x.2,.ret (.refl _) rfl⟩
noncomputable def c3:Cfg:=c2.addQuiet 101 conPatMay
theorem c3_good:GoodCfg c3:=c2_good.addQuiet conPatMay_valid plainCon_quiet
theorem fRefMay (m k:Int):callC c3 60 81 [.int .i64 m,.int .i64 k] = .ret (.bool (decide (m≥1) && (decide (k≥m) && decide (k≤6))),[]):=by kernel_rfl
theorem conRefMay_valid:ValidCon c3.P 81 conPatMay:=plainCon_valid c3_good 60 (by kernel_rfl) fun x=>⟨_,fRefMay x.1 x.2,.ret (.refl _) rfl⟩
noncomputable def c4:Cfg:=c3.addQuiet 81 conPatMay
theorem c4_good:GoodCfg c4:=c3_good.addQuiet conRefMay_valid plainCon_quiet
end Go.Fx
namespace Go.Fx
open Go Go.Proofs
theorem pSpec1 (b off:Nat):inlineX c4 (exec c4 20) 124 [.ptr b off] [] (b + 1) = .ret (.ptr b (off + 0),[],b + 1):=by kernel_rfl
noncomputable def c5:Cfg:=c4.addPcon 124 (ptrCon fun off=>off + 0)
theorem c5_good:GoodCfg c5:=c4_good.addPcon (pcon_of c4_good (n:=20) (by kernel_rfl) fun b off=>⟨_,.of_eq (pSpec1 b off) rfl⟩)
theorem pSpec2 (b off:Nat):inlineX c5 (exec c5 20) 126 [.ptr b off] [] (b + 1) = .ret (.ptr b (off + 1),[],b + 1):=by kernel_rfl
noncomputable def c6:Cfg:=c5.addPcon 126 (ptrCon fun off=>off + 1)
theorem c6_good:GoodCfg c6:=c5_good.addPcon (pcon_of c5_good (n:=20) (by kernel_rfl) fun b off=>⟨_,.of_eq (pSpec2 b off) rfl⟩)
theorem pSpec5 (b off:Nat):inlineX c6 (exec c6 20) 129 [.ptr b off] [] (b + 1) = .ret (.ptr b (off + 2),[],b + 1):=by kernel_rfl
noncomputable def c7:Cfg:=c6.addPcon 129 (ptrCon fun off=>off + 2)
theorem c7_good:GoodCfg c7:=c6_good.addPcon (pcon_of c6_good (n:=20) (by kernel_rfl) fun b off=>⟨_,.of_eq (pSpec5 b off) rfl⟩)
theorem pSpec6 (b off:Nat):inlineX c7 (exec c7 20) 130 [.ptr b off] [] (b + 1) = .ret (.ptr b (off + 3),[],b + 1):=by kernel_rfl
noncomputable def c8:Cfg:=c7.addPcon 130 (ptrCon fun off=>off + 3)
theorem c8_good:GoodCfg c8:=c7_good.addPcon (pcon_of c7_good (n:=20) (by kernel_rfl) fun b off=>⟨_,.of_eq (pSpec6 b off) rfl⟩)
theorem pSpec8 (b off:Nat):inlineX c8 (exec c8 20) 132 [.ptr b off] [] (b + 1) = .ret (.ptr b (off + 4),[],b + 1):=by kernel_rfl
noncomputable def c9:Cfg:=c8.addPcon 132 (ptrCon fun off=>off + 4)
theorem c9_good:GoodCfg c9:=c8_good.addPcon (pcon_of c8_good (n:=20) (by kernel_rfl) fun b off=>⟨_,.of_eq (pSpec8 b off) rfl⟩)
theorem pSpec9 (b off:Nat):inlineX c9 (exec c9 20) 133 [.ptr b off] [] (b + 1) = .ret (.ptr b (off + 5),[],b + 1):=by kernel_rfl
noncomputable def c10:Cfg:=c9.addPcon 133 (ptrCon fun off=>off + 5)
theorem c10_good:GoodCfg c10:=c9_good.addPcon (pcon_of c9_good (n:=20) (by kernel_rfl) fun b off=>⟨_,.of_eq (pSpec9 b off) rfl⟩)
end Go.Fx
namespace Go.Fx
open Go
def SpecOK (s:Fu.Spec):Prop:=(1≤s.C∧s.C≤6)∧(s.C≤s.T∧s.T≤s.Max∧s.Max≤48)∧(1≤s.M∧s.M≤s.K∧s.K≤6)∧(0≤s.E∧s.E≤8)∧(0 < s.E∨s.T = s.Max)
instance (s:Fu.Spec):Decidable (SpecOK s):=by unfold SpecOK; infer_instance
def mayS (s:Fu.Spec):Bool:=decide (SpecOK s)
theorem mayS_iff {s:Fu.Spec}:mayS s = true↔SpecOK s:=decide_eq_true_iff
def perOK (s:Fu.Spec) (p:Int):Bool:=mayS s && (decide (s.T≤p) && decide (p≤s.Max))
def unitsV (s:Fu.Spec) (p:Int):Int:=bif perOK s p then cdiv (s.C * s.M * 1048576) (s.K * p) else 0
theorem perOK_iff {s:Fu.Spec} {p:Int}:perOK s p = true↔SpecOK s∧s.T≤p∧p≤s.Max:=by simp [perOK,mayS_iff]
theorem mul_le_of {a b x y:Int} (ha:0≤a) (hb:0≤b) (hx:a≤x) (hy:b≤y):0≤a * b∧a * b≤x * y :=
  ⟨Int.mul_nonneg ha hb,Int.mul_le_mul hx hy hb (by omega)⟩
theorem unitsV_pos {s:Fu.Spec} {p:Int} (h:perOK s p = true):0 < unitsV s p:=by
  obtain ⟨⟨h1,h2,h3,h4,h5⟩,h6,h7⟩:=perOK_iff.1 h
  have e:unitsV s p = cdiv (s.C * s.M * 1048576) (s.K * p):=by simp [unitsV,h]
  have k1:=Int.mul_pos (show 0 < s.C by omega) (show 0 < s.M by omega)
  have k2:=Int.mul_pos (show 0 < s.K by omega) (show 0 < p by omega)
  rw [e]
  obtain ⟨h8,_⟩:=cdiv_spec (a:=s.C * s.M * 1048576) k2
  rcases Int.lt_or_le 0 (cdiv (s.C * s.M * 1048576) (s.K * p)) with h9 | h9
  · exact h9
  · have:=Int.mul_nonpos_of_nonpos_of_nonneg h9 (show 0≤s.K * p by omega)
    omega
theorem unitsV_zero {s:Fu.Spec} {p:Int}:unitsV s p = 0↔perOK s p = false:=by
  constructor
  · intro h
    cases h1:perOK s p with
    | false=>rfl
    | true=>have:=unitsV_pos h1; omega
  · intro h; simp [unitsV,h]
def zeroJ:Fu.Job:=⟨false,0,0,0,false,0,0,0⟩
def dJob:Dc Fu.Job:=⟨fun v=>match v with | .agg cs=>decJob cs | _=>none,fun j=>.agg (encJob j),fun v a h=>by
  split at h
  · exact ⟨fun hr=>by
      cases hr with
      | agg hr=>exact .agg (decJob_reps h hr) .nil⟩
  · cases h⟩
def dSpec:Dc Fu.Spec:=dRow .spec
def JobOK (s:Fu.Spec) (j:Fu.Job):Prop :=
  SpecOK s∧((j.On = false∧j = zeroJ)∨(j.On = true∧(0≤j.J∧j.J≤1099511627776)∧(0≤j.Rel∧j.Rel < j.Due∧j.Due≤1099511627776)∧j.C = s.C∧(1≤j.D∧j.D≤20)∧(0≤j.Ran∧j.Ran < j.C∧j.Ran < j.D)∧j.Mand = onP s.M s.K j.J))
instance (s:Fu.Spec) (j:Fu.Job):Decidable (JobOK s j):=by unfold JobOK; infer_instance
def mayJ (s:Fu.Spec) (j:Fu.Job):Bool:=decide (JobOK s j)
def jobOf (s:Fu.Spec) (n rel due d:Int):Fu.Job:=⟨true,n,rel,due,onP s.M s.K n,s.C,d,0⟩
def newJ (s:Fu.Spec) (n rel due d:Int):Fu.Job:=bif mayJ s (jobOf s n rel due d) then jobOf s n rel due d else zeroJ
def worst (j:Fu.Job):Int:=bif j.On then max (j.C - j.Ran) 0 else 0
def ran1 (j:Fu.Job):Fu.Job:={ j with Ran:=j.Ran + 1 }
def stepJ (j:Fu.Job):Fu.Job:=bif j.On then (bif decide (j.Ran + 1≥j.D) || decide (j.Ran + 1≥j.C) then zeroJ else ran1 j) else zeroJ
def stepF (j:Fu.Job):Int:=bif j.On then (bif decide (j.Ran + 1≥j.D) then 1 else bif decide (j.Ran + 1≥j.C) then 2 else 0) else 3
def overJ (j:Fu.Job) (now:Int):Bool:=j.On && decide (j.Due≤now)
def atJ (j:Fu.Job) (now:Int):Fu.Job:=bif overJ j now then zeroJ else j
def atF (j:Fu.Job) (now:Int):Int:=bif overJ j now then 3 else 0
end Go.Fx
namespace Go.Fx
open Go Go.Proofs
theorem fSpecMay (s:Fu.Spec):callC c10 100 80 [.agg (encSpec s)] =
  .ite (decide (s.C < 1)) noB (.ite (decide (s.C > 6)) noB (.ite (decide (s.T < s.C)) noB (.ite (decide (s.T > s.Max)) noB (.ite (decide (s.Max < 1)) noB (.ite (decide (s.Max > 48)) noB
   (.ite (decide (s.M < 1)) noB (.ite (decide (s.M > s.K)) noB (.ite (decide (s.K < 1)) noB (.ite (decide (s.K > 6)) noB (.ite (decide (s.E < 0)) noB (.ite (decide (s.E > 8)) noB
    (.ret (.bool (mayP s.M s.K && (decide (s.E > 0) || s.T == s.Max)),[]))))))))))))):=by kernel_rfl
theorem noB_rez {b:Bool} (h:b = false):Rez noB (.bool b,[]):=.ret (.blit h.symm) rfl
theorem ite_rez {c:Bool} {t e:Tree (AV × List Blk)} {r:AV × List Blk} (h1:c = true→Rez t r) (h2:c = false→Rez e r):Rez (.ite c t e) r:=by
  cases c with
  | true=>exact .itet rfl (h1 rfl)
  | false=>exact .itee rfl (h2 rfl)
theorem retB {a b:Bool} (h:a = b):Rez (.ret (.bool a,[])) (.bool b,[]):=.ret (.eq (by rw [h])) rfl
theorem dnot {p q:Prop} [Decidable p] [Decidable q] (h:p→¬ q) (hp:decide p = true):decide q = false:=decide_eq_false (h (of_decide_eq_true hp))
def conSpecMay:Con:=plainCon (d1 dSpec) fun s=>.bool (mayS s)
theorem specMay_rez (s:Fu.Spec):∃ t,callC c10 100 80 [.agg (encSpec s)] = t∧Rez t (.bool (mayS s),[]):=by
  refine ⟨_,fSpecMay s,?_⟩
  unfold mayS
  refine ite_rez (fun h=>noB_rez (dnot (fun h=>by unfold SpecOK; omega) h)) fun h1=>ite_rez (fun h=>noB_rez (dnot (fun h=>by unfold SpecOK; omega) h)) fun h2=>ite_rez (fun h=>noB_rez (dnot (fun h=>by unfold SpecOK; omega) h)) fun h3 =>
    ite_rez (fun h=>noB_rez (dnot (fun h=>by unfold SpecOK; omega) h)) fun h4=>ite_rez (fun h=>noB_rez (dnot (fun h=>by unfold SpecOK; omega) h)) fun h5=>ite_rez (fun h=>noB_rez (dnot (fun h=>by unfold SpecOK; omega) h)) fun h6 =>
    ite_rez (fun h=>noB_rez (dnot (fun h=>by unfold SpecOK; omega) h)) fun h7=>ite_rez (fun h=>noB_rez (dnot (fun h=>by unfold SpecOK; omega) h)) fun h8=>ite_rez (fun h=>noB_rez (dnot (fun h=>by unfold SpecOK; omega) h)) fun h9 =>
    ite_rez (fun h=>noB_rez (dnot (fun h=>by unfold SpecOK; omega) h)) fun h10=>ite_rez (fun h=>noB_rez (dnot (fun h=>by unfold SpecOK; omega) h)) fun h11=>ite_rez (fun h=>noB_rez (dnot (fun h=>by unfold SpecOK; omega) h)) fun h12=>retB ?_
  simp only [decide_eq_false_iff_not] at h1 h2 h3 h4 h5 h6 h7 h8 h9 h10 h11 h12
  rw [Bool.eq_iff_iff]
  simp only [mayP,Bool.and_eq_true,Bool.or_eq_true,decide_eq_true_eq,beq_iff_eq]
  unfold SpecOK
  omega
theorem conSpecMay_valid:ValidCon c10.P 80 conSpecMay:=plainCon_valid c10_good 100 (by kernel_rfl) fun s=>specMay_rez s
noncomputable def c11:Cfg:=c10.addQuiet 80 conSpecMay
theorem c11_good:GoodCfg c11:=c10_good.addQuiet conSpecMay_valid plainCon_quiet
theorem fRSpecMay (s:Fu.Spec):callC c11 100 58 [.agg (encSpec s)] = .ret (.bool (decide (s.C≥1) && (decide (s.C≤6) && (decide (s.T≥s.C) && (decide (s.Max≥s.T) && (decide (s.Max≤48) && (mayP s.M s.K && (decide (s.E≥0) && (decide (s.E≤8) && (s.E != 0 || s.T == s.Max))))))))),[]):=by kernel_rfl
theorem conRSpecMay_valid:ValidCon c11.P 58 conSpecMay:=plainCon_valid c11_good 100 (by kernel_rfl) fun s=>⟨_,fRSpecMay s,retB (by
  unfold mayS
  rw [Bool.eq_iff_iff]
  simp only [mayP,Bool.and_eq_true,Bool.or_eq_true,decide_eq_true_eq,beq_iff_eq,bne_iff_ne,ne_eq]
  unfold SpecOK
  omega)⟩
noncomputable def c12:Cfg:=c11.addQuiet 58 conSpecMay
theorem c12_good:GoodCfg c12:=c11_good.addQuiet conRSpecMay_valid plainCon_quiet
end Go.Fx
namespace Go.Fx
open Go Go.Proofs
theorem fUnits (s:Fu.Spec) (p:Int):callC c12 100 87 [.agg (encSpec s),.int .i64 p] =
  .ite (!mayS s || (decide (p < s.T) || decide (p > s.Max))) (.ret (.lit .i64 0,[])) (.ret (.int .i64 (ceilV (IntKind.i64.wrap (IntKind.i64.wrap (s.C * s.M) * 1048576)) (IntKind.i64.wrap (s.K * p))),[])):=by kernel_rfl
theorem units_val {s:Fu.Spec} {p:Int} (h:perOK s p = true):ceilV (IntKind.i64.wrap (IntKind.i64.wrap (s.C * s.M) * 1048576)) (IntKind.i64.wrap (s.K * p)) = unitsV s p:=by
  obtain ⟨⟨h1,h2,h3,h4,h5⟩,h6,h7⟩:=perOK_iff.1 h
  have k1:=mul_le_of (a:=s.C) (b:=s.M) (x:=6) (y:=6) (by omega) (by omega) (by omega) (by omega)
  have k2:=mul_le_of (a:=s.K) (b:=p) (x:=6) (y:=48) (by omega) (by omega) (by omega) (by omega)
  have k3:=Int.mul_pos (show 0 < s.K by omega) (show 0 < p by omega)
  rw [wrap_fits (n:=s.C * s.M) (by omega) (by omega),wrap_fits (by omega) (by omega),wrap_fits (n:=s.K * p) (by omega) (by omega),ceilV_of (by omega) (by omega) (by omega) (by omega)]
  simp [unitsV,h]
theorem unitsT_rez (s:Fu.Spec) (p:Int):∃ t,callC c12 100 87 [.agg (encSpec s),.int .i64 p] = t∧Rez t (.int .i64 (unitsV s p),[]):=by
  refine ⟨_,fUnits s p,?_⟩
  cases h:perOK s p with
  | true =>
    obtain ⟨h0,h6,h7⟩:=perOK_iff.1 h
    refine .itee ?_ (.ret (.eq (by rw [units_val h])) rfl)
    simp only [mayS_iff.2 h0,Bool.not_true,Bool.false_or,Bool.or_eq_false_iff,decide_eq_false_iff_not]
    omega
  | false =>
    refine .itet ?_ (.ret (.lit (by rw [unitsV_zero.2 h])) rfl)
    unfold perOK at h
    cases h1:mayS s with
    | false=>rfl
    | true =>
      rw [h1] at h
      simp only [Bool.true_and,Bool.and_eq_false_iff,decide_eq_false_iff_not] at h
      simp only [Bool.not_true,Bool.false_or,Bool.or_eq_true,decide_eq_true_eq]
      omega
def conUnits:Con:=plainCon (d2 dSpec dInt) fun x=>.int .i64 (unitsV x.1 x.2)
theorem conUnits_valid:ValidCon c12.P 87 conUnits:=plainCon_valid c12_good 100 (by kernel_rfl) fun x=>unitsT_rez x.1 x.2
noncomputable def c13:Cfg:=c12.addQuiet 87 conUnits
theorem c13_good:GoodCfg c13:=c12_good.addQuiet conUnits_valid plainCon_quiet
theorem fFates:callC c13 60 113 [] = .ret (.agg [.lit .i64 0,.lit .i64 2,.lit .i64 1],[]):=by kernel_rfl
def conFates:Con:=plainCon Ds.none fun _=>.agg [.lit .i64 0,.lit .i64 2,.lit .i64 1]
theorem conFates_valid:ValidCon c13.P 113 conFates:=plainCon_valid c13_good 60 (by kernel_rfl) fun _=>⟨_,fFates,.ret (.refl _) rfl⟩
noncomputable def c14:Cfg:=c13.addQuiet 113 conFates
theorem c14_good:GoodCfg c14:=c13_good.addQuiet conFates_valid plainCon_quiet
def offJ (j:Fu.Job):Bool:=j.On == false && (j.J == 0 && (j.Rel == 0 && (j.Due == 0 && (j.Mand == false && (j.C == 0 && (j.D == 0 && j.Ran == 0))))))
def badT (a b c:Int):Bool:=decide (a < 0) || (decide (a > 1099511627776) || (decide (b < 0) || (decide (b≥c) || decide (c > 1099511627776))))
def fineJ (s:Fu.Spec) (j:Fu.Job):Bool:=(j.C == s.C && (decide (j.D≥1) && (decide (j.D≤20) && (decide (j.Ran≥0) && decide (j.Ran < minI j.C j.D))))) && j.Mand == onP s.M s.K j.J
theorem offJ_eq {j:Fu.Job}:offJ j = decide (j = zeroJ):=by
  obtain ⟨a,b,c,d,e,f,g,h⟩:=j
  rw [Bool.eq_iff_iff]
  simp only [offJ,zeroJ,Bool.and_eq_true,beq_iff_eq,decide_eq_true_eq,Fu.Job.mk.injEq]
theorem fineJ_iff {s:Fu.Spec} {j:Fu.Job}:fineJ s j = true↔j.C = s.C∧(1≤j.D∧j.D≤20)∧(0≤j.Ran∧j.Ran < j.C∧j.Ran < j.D)∧j.Mand = onP s.M s.K j.J:=by
  simp only [fineJ,Bool.and_eq_true,beq_iff_eq,decide_eq_true_eq]
  unfold minI
  constructor
  · rintro ⟨⟨h1,h2,h3,h4,h5⟩,h6⟩
    refine ⟨h1,⟨h2,h3⟩,⟨h4,?_⟩,h6⟩
    split at h5 <;> omega
  · rintro ⟨h1,⟨h2,h3⟩,⟨h4,h5,h7⟩,h6⟩
    refine ⟨⟨h1,h2,h3,h4,?_⟩,h6⟩
    split <;> omega
theorem badT_iff {a b c:Int}:badT a b c = false↔(0≤a∧a≤1099511627776)∧(0≤b∧b < c∧c≤1099511627776):=by
  simp only [badT,Bool.or_eq_false_iff,decide_eq_false_iff_not]
  omega
theorem fJobMay (s:Fu.Spec) (j:Fu.Job):callC c14 100 56 [.agg (encSpec s),.agg (encJob j)] =
  .ite (!mayS s) noB (.ite (!j.On) (.ret (.bool (offJ j),[])) (.ite (badT j.J j.Rel j.Due) noB (.ret (.bool (fineJ s j),[])))):=by kernel_rfl
theorem jobMay_rez (s:Fu.Spec) (j:Fu.Job):∃ t,callC c14 100 56 [.agg (encSpec s),.agg (encJob j)] = t∧Rez t (.bool (mayJ s j),[]):=by
  refine ⟨_,fJobMay s j,ite_rez (fun h=>noB_rez ?_) fun h1=>ite_rez (fun h=>retB ?_) fun h2=>ite_rez (fun h=>noB_rez ?_) fun h3=>retB ?_⟩
  · refine decide_eq_false fun ⟨h1,_⟩=>?_
    rw [mayS_iff.2 h1] at h; cases h
  · have h1':SpecOK s:=mayS_iff.1 (by simpa using h1)
    have h':j.On = false:=by simpa using h
    rw [offJ_eq]
    unfold mayJ
    rw [decide_eq_decide]
    unfold JobOK
    constructor
    · intro e; exact ⟨h1',.inl ⟨h',e⟩⟩
    · rintro ⟨_,h | h⟩
      · exact h.2
      · rw [h'] at h; exact absurd h.1 (by decide)
  · refine decide_eq_false fun ⟨_,h4⟩=>?_
    rcases h4 with h4 | ⟨_,h4,h5,_⟩
    · rw [h4.1] at h2; cases h2
    · rw [badT_iff.2 ⟨h4,h5⟩] at h; cases h
  · have h1':SpecOK s:=mayS_iff.1 (by simpa using h1)
    have h2':j.On = true:=by simpa using h2
    obtain ⟨h4,h5⟩:=badT_iff.1 h3
    unfold mayJ
    rw [Bool.eq_iff_iff,decide_eq_true_eq,fineJ_iff]
    unfold JobOK
    constructor
    · rintro ⟨h6,h7,h8,h9⟩; exact ⟨h1',.inr ⟨h2',h4,h5,h6,h7,h8,h9⟩⟩
    · rintro ⟨_,h | ⟨_,_,_,h6,h7,h8,h9⟩⟩
      · rw [h2'] at h; exact absurd h.1 (by decide)
      · exact ⟨h6,h7,h8,h9⟩
def conJobMay:Con:=plainCon (d2 dSpec dJob) fun x=>.bool (mayJ x.1 x.2)
theorem conJobMay_valid:ValidCon c14.P 56 conJobMay:=plainCon_valid c14_good 100 (by kernel_rfl) fun x=>jobMay_rez x.1 x.2
noncomputable def c15:Cfg:=c14.addQuiet 56 conJobMay
theorem c15_good:GoodCfg c15:=c14_good.addQuiet conJobMay_valid plainCon_quiet
end Go.Fx
namespace Go.Fx
open Go Go.Proofs
theorem fROn (m k j:Int):callC c15 60 73 [.int .i64 m,.int .i64 k,.int .i64 j] =
  .ite (mayP m k) (.ite (decide (j≥0) && decide (j≤1099511627776)) (.asrt (k≠0) (.ret (.bool ((IntKind.i64.wrap (j * m)).tmod k == 0 || decide ((IntKind.i64.wrap (j * m)).tmod k > IntKind.i64.wrap (k - m))),[]))) noB) noB:=by kernel_rfl
theorem mayP_iff {m k:Int}:mayP m k = true↔1≤m∧m≤k∧k≤6:=by simp [mayP]
theorem inJ_iff {j:Int}:inJ j = true↔0≤j∧j≤1099511627776:=by simp [inJ]
theorem rOn_rez (m k j:Int):∃ t,callC c15 60 73 [.int .i64 m,.int .i64 k,.int .i64 j] = t∧Rez t (.bool (onP m k j),[]):=by
  refine ⟨_,fROn m k j,ite_rez (fun h1=>ite_rez (fun h2=>?_) fun h2=>noB_rez ?_) fun h1=>noB_rez (by simp [onP,h1])⟩
  · obtain ⟨h3,h4,h5⟩:=mayP_iff.1 h1
    have h6:inJ j = true:=h2
    obtain ⟨h7,h8⟩:=inJ_iff.1 h6
    have k1:=mul_le_of (a:=j) (b:=m) (x:=1099511627776) (y:=6) (by omega) (by omega) (by omega) (by omega)
    refine .asrt (by omega) (retB ?_)
    rw [wrap_fits (by omega) (by omega),wrap_fits (by omega) (by omega)]
    have e:(j * m).tmod k = j * m % k:=Int.tmod_eq_emod_of_nonneg k1.1
    rw [e]
    unfold onP
    rw [h1,h6,mandJ_even h3 h4]
    rfl
  · have:inJ j = false:=h2
    simp [onP,this]
theorem conROn_valid:ValidCon c15.P 73 conOn:=plainCon_valid c15_good 60 (by kernel_rfl) fun x=>rOn_rez x.1 x.2.1 x.2.2
noncomputable def c16:Cfg:=c15.addQuiet 73 conOn
theorem c16_good:GoodCfg c16:=c15_good.addQuiet conROn_valid plainCon_quiet
def badR (s:Fu.Spec) (j:Fu.Job):Bool:=decide (j.J < 0) || (decide (j.J > 1099511627776) || (decide (j.Rel < 0) || (decide (j.Due≤j.Rel) || (decide (j.Due > 1099511627776) || !j.Mand == onP s.M s.K j.J))))
def fineR (s:Fu.Spec) (j:Fu.Job):Bool:=j.C == s.C && (decide (j.D≥1) && (decide (j.D≤20) && (decide (j.Ran≥0) && (decide (j.Ran < j.C) && decide (j.Ran < j.D)))))
theorem fRJobMay (s:Fu.Spec) (j:Fu.Job):callC c16 100 59 [.agg (encSpec s),.agg (encJob j)] =
  .ite (!mayS s) noB (.ite (!j.On) (.ret (.bool (offJ j),[])) (.ite (badR s j) noB (.ret (.bool (fineR s j),[])))):=by kernel_rfl
theorem fineR_iff {s:Fu.Spec} {j:Fu.Job}:fineR s j = true↔j.C = s.C∧(1≤j.D∧j.D≤20)∧(0≤j.Ran∧j.Ran < j.C∧j.Ran < j.D):=by
  simp only [fineR,Bool.and_eq_true,beq_iff_eq,decide_eq_true_eq]
  omega
theorem badR_iff {s:Fu.Spec} {j:Fu.Job}:badR s j = false↔(0≤j.J∧j.J≤1099511627776)∧(0≤j.Rel∧j.Rel < j.Due∧j.Due≤1099511627776)∧j.Mand = onP s.M s.K j.J:=by
  have e:(!j.Mand == onP s.M s.K j.J) = false↔j.Mand = onP s.M s.K j.J:=by cases j.Mand <;> cases onP s.M s.K j.J <;> simp
  simp only [badR,Bool.or_eq_false_iff,decide_eq_false_iff_not,e]
  constructor
  · rintro ⟨h1,h2,h3,h4,h5,h6⟩; exact ⟨⟨by omega,by omega⟩,⟨by omega,by omega,by omega⟩,h6⟩
  · rintro ⟨⟨h1,h2⟩,⟨h3,h4,h5⟩,h6⟩; exact ⟨by omega,by omega,by omega,by omega,by omega,h6⟩
theorem rJobMay_rez (s:Fu.Spec) (j:Fu.Job):∃ t,callC c16 100 59 [.agg (encSpec s),.agg (encJob j)] = t∧Rez t (.bool (mayJ s j),[]):=by
  refine ⟨_,fRJobMay s j,ite_rez (fun h=>noB_rez ?_) fun h1=>ite_rez (fun h=>retB ?_) fun h2=>ite_rez (fun h=>noB_rez ?_) fun h3=>retB ?_⟩
  · refine decide_eq_false fun ⟨h1,_⟩=>?_
    rw [mayS_iff.2 h1] at h; cases h
  · have h1':SpecOK s:=mayS_iff.1 (by simpa using h1)
    have h':j.On = false:=by simpa using h
    rw [offJ_eq]
    unfold mayJ
    rw [decide_eq_decide]
    unfold JobOK
    constructor
    · intro e; exact ⟨h1',.inl ⟨h',e⟩⟩
    · rintro ⟨_,h | h⟩
      · exact h.2
      · rw [h'] at h; exact absurd h.1 (by decide)
  · refine decide_eq_false fun ⟨_,h4⟩=>?_
    rcases h4 with h4 | ⟨_,h4,h5,_,_,_,h6⟩
    · rw [h4.1] at h2; cases h2
    · rw [badR_iff.2 ⟨h4,h5,h6⟩] at h; cases h
  · have h1':SpecOK s:=mayS_iff.1 (by simpa using h1)
    have h2':j.On = true:=by simpa using h2
    obtain ⟨h4,h5,h6⟩:=badR_iff.1 h3
    unfold mayJ
    rw [Bool.eq_iff_iff,decide_eq_true_eq,fineR_iff]
    unfold JobOK
    constructor
    · rintro ⟨h7,h8,h9⟩; exact ⟨h1',.inr ⟨h2',h4,h5,h7,h8,h9,h6⟩⟩
    · rintro ⟨_,h | ⟨_,_,_,h7,h8,h9,_⟩⟩
      · rw [h2'] at h; exact absurd h.1 (by decide)
      · exact ⟨h7,h8,h9⟩
theorem conRJobMay_valid:ValidCon c16.P 59 conJobMay:=plainCon_valid c16_good 100 (by kernel_rfl) fun x=>rJobMay_rez x.1 x.2
noncomputable def c17:Cfg:=c16.addQuiet 59 conJobMay
theorem c17_good:GoodCfg c17:=c16_good.addQuiet conRJobMay_valid plainCon_quiet
def zeroJA:AV:=.agg [.blit false,.lit .i64 0,.lit .i64 0,.lit .i64 0,.blit false,.lit .i64 0,.lit .i64 0,.lit .i64 0]
theorem zeroJ_as:AsArg zeroJA (.agg (encJob zeroJ)):=.agg (.cons (.blit rfl) (.cons (.lit rfl) (.cons (.lit rfl) (.cons (.lit rfl) (.cons (.blit rfl) (.cons (.lit rfl) (.cons (.lit rfl) (.cons (.lit rfl) .nil))))))))
def noNew:Tree (AV × List Blk):=.ret (.tup [zeroJA,.blit false],[])
def newT (s:Fu.Spec) (a b c d:Int):Tree (AV × List Blk):=.ite (!mayJ s (jobOf s a b c d)) noNew (.ret (.tup [.agg [.blit true,.int .i64 a,.int .i64 b,.int .i64 c,.bool (onP s.M s.K a),.int .i64 s.C,.int .i64 d,.lit .i64 0],.blit true],[]))
theorem newT_rez (s:Fu.Spec) (a b c d:Int):Rez (newT s a b c d) (.tup [.agg (encJob (newJ s a b c d)),.bool (mayJ s (jobOf s a b c d))],[]):=by
  unfold newT newJ
  cases h:mayJ s (jobOf s a b c d) with
  | true =>
    refine .itee rfl (.ret (.tup (.cons (.agg ?_) (.cons (.blit rfl) .nil))) rfl)
    exact .cons (.blit rfl) (.cons (.refl _) (.cons (.refl _) (.cons (.refl _) (.cons (.refl _) (.cons (.refl _) (.cons (.refl _) (.cons (.lit rfl) .nil)))))))
  | false=>exact .itet rfl (.ret (.tup (.cons zeroJ_as (.cons (.blit rfl) .nil))) rfl)
def conNew:Con:=plainCon (d5 dSpec dInt dInt dInt dInt) fun x=>.tup [.agg (encJob (newJ x.1 x.2.1 x.2.2.1 x.2.2.2.1 x.2.2.2.2)),.bool (mayJ x.1 (jobOf x.1 x.2.1 x.2.2.1 x.2.2.2.1 x.2.2.2.2))]
theorem fNew (s:Fu.Spec) (a b c d:Int):callC c17 100 46 [.agg (encSpec s),.int .i64 a,.int .i64 b,.int .i64 c,.int .i64 d] = newT s a b c d:=by kernel_rfl
theorem conNew_valid:ValidCon c17.P 46 conNew:=plainCon_valid c17_good 100 (by kernel_rfl) fun x=>⟨_,fNew x.1 x.2.1 x.2.2.1 x.2.2.2.1 x.2.2.2.2,newT_rez _ _ _ _ _⟩
noncomputable def c18:Cfg:=c17.addQuiet 46 conNew
theorem c18_good:GoodCfg c18:=c17_good.addQuiet conNew_valid plainCon_quiet
theorem fRNew (s:Fu.Spec) (a b c d:Int):callC c18 100 47 [.agg (encSpec s),.int .i64 a,.int .i64 b,.int .i64 c,.int .i64 d] = newT s a b c d:=by kernel_rfl
theorem conRNew_valid:ValidCon c18.P 47 conNew:=plainCon_valid c18_good 100 (by kernel_rfl) fun x=>⟨_,fRNew x.1 x.2.1 x.2.2.1 x.2.2.2.1 x.2.2.2.2,newT_rez _ _ _ _ _⟩
noncomputable def c19:Cfg:=c18.addQuiet 47 conNew
theorem c19_good:GoodCfg c19:=c18_good.addQuiet conRNew_valid plainCon_quiet
def smallC (j:Fu.Job):Prop:=-1000000≤j.C∧j.C≤1000000∧-1000000≤j.Ran∧j.Ran≤1000000
theorem fWorst (j:Fu.Job):callC c19 100 114 [.agg (encJob j)] = .ite (!j.On) (.ret (.lit .i64 0,[])) (.ret (.int .i64 (maxI (IntKind.i64.wrap (j.C - j.Ran)) 0),[])):=by kernel_rfl
theorem maxI_eq (a b:Int):maxI a b = max a b:=by unfold maxI; split <;> omega
theorem minI_eq (a b:Int):minI a b = min a b:=by unfold minI; split <;> omega
def conWorst:Con:=flatCon (d1 dJob) smallC fun j=>.int .i64 (worst j)
theorem conWorst_valid:ValidCon c19.P 114 conWorst:=flatCon_valid c19_good 100 (by kernel_rfl) fun j ⟨h1,h2,h3,h4⟩=>⟨_,fWorst j,ite_rez (fun h=>.ret (.lit (by simp at h; simp [worst,h])) rfl) fun h=>.ret (.eq (by
  simp at h
  rw [wrap_fits (by omega) (by omega),maxI_eq]
  simp [worst,h])) rfl⟩
noncomputable def c20:Cfg:=c19.addQuiet 114 conWorst
theorem c20_good:GoodCfg c20:=c19_good.addQuiet conWorst_valid flatCon_quiet
theorem fRWorst (j:Fu.Job):callC c20 100 120 [.agg (encJob j)] = .ite (!j.On || decide (j.C≤j.Ran)) (.ret (.lit .i64 0,[])) (.ret (.int .i64 (IntKind.i64.wrap (j.C - j.Ran)),[])):=by kernel_rfl
theorem conRWorst_valid:ValidCon c20.P 120 conWorst:=flatCon_valid c20_good 100 (by kernel_rfl) fun j ⟨h1,h2,h3,h4⟩=>⟨_,fRWorst j,ite_rez (fun h=>.ret (.lit (by
  simp at h
  unfold worst
  cases ho:j.On with
  | false=>rfl
  | true=>rw [ho] at h; simp at h; simp; omega)) rfl) fun h=>.ret (.eq (by
  simp at h
  rw [wrap_fits (by omega) (by omega)]
  simp [worst,h]
  omega)) rfl⟩
noncomputable def c21:Cfg:=c20.addQuiet 120 conWorst
theorem c21_good:GoodCfg c21:=c20_good.addQuiet conRWorst_valid flatCon_quiet
def stepTr (j:Fu.Job):Tree (AV × List Blk):=.ite (!j.On) (.ret (.tup [zeroJA,.lit .i64 3],[])) (.ite (decide (IntKind.i64.wrap (j.Ran + 1)≥j.D)) (.ret (.tup [zeroJA,.lit .i64 1],[])) (.ite (decide (IntKind.i64.wrap (j.Ran + 1)≥j.C)) (.ret (.tup [zeroJA,.lit .i64 2],[]))
  (.ret (.tup [.agg (encJob { j with Ran:=IntKind.i64.wrap (j.Ran + 1) }),.lit .i64 0],[]))))
theorem stepTr_rez {j:Fu.Job} (hs:smallC j):Rez (stepTr j) (.tup [.agg (encJob (stepJ j)),.int .i64 (stepF j)],[]):=by
  obtain ⟨h1,h2,h3,h4⟩:=hs
  have e:IntKind.i64.wrap (j.Ran + 1) = j.Ran + 1:=wrap_fits (by omega) (by omega)
  unfold stepTr
  rw [e]
  refine ite_rez (fun h=>?_) fun h=>ite_rez (fun h5=>?_) fun h5=>ite_rez (fun h6=>?_) fun h6=>?_
  · have ho:j.On = false:=by simpa using h
    refine .ret (.tup (.cons ?_ (.cons (.lit (by simp [stepF,ho])) .nil))) rfl
    rw [show stepJ j = zeroJ by simp [stepJ,ho]]; exact zeroJ_as
  · have ho:j.On = true:=by simpa using h
    refine .ret (.tup (.cons ?_ (.cons (.lit (by simp only [stepF,ho,h5]; rfl)) .nil))) rfl
    rw [show stepJ j = zeroJ by simp only [stepJ,ho,h5]; rfl]; exact zeroJ_as
  · have ho:j.On = true:=by simpa using h
    refine .ret (.tup (.cons ?_ (.cons (.lit (by simp only [stepF,ho,h5,h6]; rfl)) .nil))) rfl
    rw [show stepJ j = zeroJ by simp only [stepJ,ho,h5,h6]; rfl]; exact zeroJ_as
  · have ho:j.On = true:=by simpa using h
    refine .ret (.tup (.cons (.eq ?_) (.cons (.lit (by simp only [stepF,ho,h5,h6]; rfl)) .nil))) rfl
    rw [show stepJ j = ran1 j by simp only [stepJ,ho,h5,h6]; rfl]; rfl
def conStep:Con:=flatCon (d1 dJob) smallC fun j=>.tup [.agg (encJob (stepJ j)),.int .i64 (stepF j)]
theorem fStep (j:Fu.Job):callC c21 100 84 [.agg (encJob j)] = stepTr j:=by kernel_rfl
theorem conStep_valid:ValidCon c21.P 84 conStep:=flatCon_valid c21_good 100 (by kernel_rfl) fun j h=>⟨_,fStep j,stepTr_rez h⟩
noncomputable def c22:Cfg:=c21.addQuiet 84 conStep
theorem c22_good:GoodCfg c22:=c21_good.addQuiet conStep_valid flatCon_quiet
theorem fRStep (j:Fu.Job):callC c22 100 95 [.agg (encJob j)] = stepTr j:=by kernel_rfl
theorem conRStep_valid:ValidCon c22.P 95 conStep:=flatCon_valid c22_good 100 (by kernel_rfl) fun j h=>⟨_,fRStep j,stepTr_rez h⟩
noncomputable def c23:Cfg:=c22.addQuiet 95 conStep
theorem c23_good:GoodCfg c23:=c22_good.addQuiet conRStep_valid flatCon_quiet
def conAt:Con:=plainCon (d2 dJob dInt) fun x=>.tup [.agg (encJob (atJ x.1 x.2)),.int .i64 (atF x.1 x.2)]
theorem atStay_rez {j:Fu.Job} {n:Int} (h:overJ j n = false):Rez (.ret (.tup [.agg (encJob j),.lit .i64 0],[])) (.tup [.agg (encJob (atJ j n)),.int .i64 (atF j n)],[]) :=
  .ret (.tup (.cons (.eq (by simp [atJ,h])) (.cons (.lit (by simp [atF,h])) .nil))) rfl
theorem atOver_rez {j:Fu.Job} {n:Int} (h:overJ j n = true):Rez (.ret (.tup [zeroJA,.lit .i64 3],[])) (.tup [.agg (encJob (atJ j n)),.int .i64 (atF j n)],[]):=by
  refine .ret (.tup (.cons ?_ (.cons (.lit (by simp [atF,h])) .nil))) rfl
  rw [show atJ j n = zeroJ by simp [atJ,h]]; exact zeroJ_as
theorem fAt (j:Fu.Job) (n:Int):callC c23 100 48 [.agg (encJob j),.int .i64 n] = .ite (!j.On || decide (n < j.Due)) (.ret (.tup [.agg (encJob j),.lit .i64 0],[])) (.ret (.tup [zeroJA,.lit .i64 3],[])):=by kernel_rfl
theorem conAt_valid:ValidCon c23.P 48 conAt:=plainCon_valid c23_good 100 (by kernel_rfl) fun x=>⟨_,fAt x.1 x.2,ite_rez (fun h=>atStay_rez (by
  unfold overJ
  cases ho:x.1.On with
  | false=>rfl
  | true=>rw [ho] at h; simp at h; simp; omega)) fun h=>atOver_rez (by simp at h; unfold overJ; rw [h.1]; simp; omega)⟩
noncomputable def c24:Cfg:=c23.addQuiet 48 conAt
theorem c24_good:GoodCfg c24:=c23_good.addQuiet conAt_valid plainCon_quiet
theorem fRAt (j:Fu.Job) (n:Int):callC c24 100 50 [.agg (encJob j),.int .i64 n] = .ite (j.On && decide (n≥j.Due)) (.ret (.tup [zeroJA,.lit .i64 3],[])) (.ret (.tup [.agg (encJob j),.lit .i64 0],[])):=by kernel_rfl
theorem conRAt_valid:ValidCon c24.P 50 conAt:=plainCon_valid c24_good 100 (by kernel_rfl) fun x=>⟨_,fRAt x.1 x.2,ite_rez (fun h=>atOver_rez h) fun h=>atStay_rez h⟩
noncomputable def c25:Cfg:=c24.addQuiet 50 conAt
theorem c25_good:GoodCfg c25:=c24_good.addQuiet conRAt_valid plainCon_quiet
end Go.Fx
namespace Go.Fx
open Go
def mustJ (j:Fu.Job):Bool:=j.On && (j.Mand && decide (worst j > 0))
def LiveOK (x:Fu.Live) (now:Int):Prop :=
  perOK x.S x.P = true∧(now≤x.At∧x.At≤now + 48)∧(0≤x.N∧x.N≤549755813888)∧JobOK x.S x.J∧(x.J.On = false∨(x.J.Rel < now∧x.J.Due = x.At∧x.N = x.J.J + 1))
instance (x:Fu.Live) (now:Int):Decidable (LiveOK x now):=by unfold LiveOK; infer_instance
def mayL1 (x:Fu.Live) (now:Int):Bool:=decide (LiveOK x now)
def mayL (l:List Fu.Live) (now:Int):Bool:=decide (l.length≤4) && ((decide (0≤now) && decide (now≤549755813888)) && l.all fun x=>mayL1 x now)
theorem mayL_iff {l:List Fu.Live} {now:Int}:mayL l now = true↔l.length≤4∧(0≤now∧now≤549755813888)∧∀ x ∈ l,LiveOK x now:=by
  simp [mayL,mayL1]
def beginL (now:Int) (x:Fu.Live):Fu.Live:=bif decide (x.At≤now) then { x with J:=newJ x.S x.N now (now + x.P) x.S.C,At:=now + x.P,N:=x.N + 1 } else x
def nowOK (now:Int):Prop:=-4611686018427387904≤now∧now≤4611686018427387904
end Go.Fx
namespace Go.Fx
open Go Go.Proofs
theorem fMust (j:Fu.Job):callC c25 100 85 [.agg (encJob j)] = .asrt (j.On = true→j.Mand = true→smallC j) (.ret (.bool (mustJ j),[])):=by kernel_rfl
def conMust:Con:=flatCon (d1 dJob) smallC fun j=>.bool (mustJ j)
theorem conMust_valid:ValidCon c25.P 85 conMust:=flatCon_valid c25_good 100 (by kernel_rfl) fun j h=>⟨_,fMust j,.asrt (fun _ _=>h) (.ret (.refl _) rfl)⟩
noncomputable def c26:Cfg:=c25.addQuiet 85 conMust
theorem c26_good:GoodCfg c26:=c25_good.addQuiet conMust_valid flatCon_quiet
theorem fRMust (j:Fu.Job):callC c26 100 96 [.agg (encJob j)] = .asrt (j.On = true→j.Mand = true→smallC j) (.ret (.bool (mustJ j),[])):=by kernel_rfl
theorem conRMust_valid:ValidCon c26.P 96 conMust:=flatCon_valid c26_good 100 (by kernel_rfl) fun j h=>⟨_,fRMust j,.asrt (fun _ _=>h) (.ret (.refl _) rfl)⟩
noncomputable def c27:Cfg:=c26.addQuiet 96 conMust
theorem c27_good:GoodCfg c27:=c26_good.addQuiet conRMust_valid flatCon_quiet
def dLive:Dc Fu.Live:=dRow .live
def lastM (x:Fu.Live) (n:Int):Bool:=!x.J.On || decide (x.J.Rel < n) && (x.J.Due == x.At && x.N == IntKind.i64.wrap (x.J.J + 1))
theorem lastM_iff {x:Fu.Live} {n:Int} (h:JobOK x.S x.J):lastM x n = true↔(x.J.On = false∨(x.J.Rel < n∧x.J.Due = x.At∧x.N = x.J.J + 1)):=by
  unfold lastM
  rcases h.2 with h1 | ⟨h1,h2,_⟩
  · simp [h1.1]
  · rw [wrap_fits (by omega) (by omega)]
    simp [h1]
def conMay1:Con:=flatCon (d2 dLive dInt) (fun x=>nowOK x.2) fun x=>.bool (mayL1 x.1 x.2)
def may1T (x:Fu.Live) (n:Int):Tree (AV × List Blk) :=
  .ite (!mayS x.S) noB (.ite (unitsV x.S x.P == 0) noB (.ite (!(decide (x.At≥n) && decide (x.At≤IntKind.i64.wrap (n + 48)))) noB (.ite (!(decide (x.N≥0) && decide (x.N≤549755813888))) noB
    (.ite (!mayJ x.S x.J) noB (.ret (.bool (lastM x n),[]))))))
theorem fMay1 (x:Fu.Live) (n:Int):callC c27 100 79 [.agg (encLive x),.int .i64 n] = may1T x n:=by kernel_rfl
theorem may1T_rez {x:Fu.Live} {n:Int} (hn:nowOK n):Rez (may1T x n) (.bool (mayL1 x n),[]):=by
  obtain ⟨hn1,hn2⟩:=hn
  unfold may1T
  rw [wrap_fits (by omega) (by omega)]
  refine ite_rez (fun h=>noB_rez (decide_eq_false fun hl=>?_)) fun h1=>ite_rez (fun h=>noB_rez (decide_eq_false fun hl=>?_)) fun h2=>ite_rez (fun h=>noB_rez (decide_eq_false fun hl=>?_)) fun h3 =>
    ite_rez (fun h=>noB_rez (decide_eq_false fun hl=>?_)) fun h4=>ite_rez (fun h=>noB_rez (decide_eq_false fun hl=>?_)) fun h5=>retB ?_
  · rw [mayS_iff.2 (perOK_iff.1 hl.1).1] at h; cases h
  · have:=unitsV_pos hl.1; simp at h; omega
  · obtain ⟨_,h6,_⟩:=hl; simp at h; omega
  · obtain ⟨_,_,h6,_⟩:=hl; simp at h; omega
  · obtain ⟨_,_,_,h6,_⟩:=hl
    unfold mayJ at h; rw [decide_eq_true h6] at h; cases h
  · have h6:JobOK x.S x.J:=by unfold mayJ at h5; simpa using h5
    have h7:perOK x.S x.P = true:=by
      cases hp:perOK x.S x.P with
      | true=>rfl
      | false=>rw [unitsV_zero.2 hp] at h2; cases h2
    simp at h3 h4
    unfold mayL1
    rw [Bool.eq_iff_iff,decide_eq_true_eq,lastM_iff h6]
    constructor
    · intro h; exact ⟨h7,by omega,by omega,h6,h⟩
    · intro h; exact h.2.2.2.2
theorem conMay1_valid:ValidCon c27.P 79 conMay1:=flatCon_valid c27_good 100 (by kernel_rfl) fun x h=>⟨_,fMay1 x.1 x.2,may1T_rez h⟩
noncomputable def c28:Cfg:=c27.addQuiet 79 conMay1
theorem c28_good:GoodCfg c28:=c27_good.addQuiet conMay1_valid flatCon_quiet
def may1R (x:Fu.Live) (n:Int):Tree (AV × List Blk) :=
  .ite (!mayS x.S || (!mayJ x.S x.J || (decide (x.P < x.S.T) || (decide (x.P > x.S.Max) || (decide (x.At < n) || (decide (x.At > IntKind.i64.wrap (n + 48)) || (decide (x.N < 0) || decide (x.N > 549755813888)))))))) noB (.ret (.bool (lastM x n),[]))
theorem fRMay1 (x:Fu.Live) (n:Int):callC c28 100 92 [.agg (encLive x),.int .i64 n] = may1R x n:=by kernel_rfl
theorem may1R_rez {x:Fu.Live} {n:Int} (hn:nowOK n):Rez (may1R x n) (.bool (mayL1 x n),[]):=by
  obtain ⟨hn1,hn2⟩:=hn
  unfold may1R
  rw [wrap_fits (by omega) (by omega)]
  refine ite_rez (fun h=>noB_rez (decide_eq_false fun hl=>?_)) fun h=>retB ?_
  · obtain ⟨h1,h2,h3,h4,_⟩:=hl
    obtain ⟨h5,h6,h7⟩:=perOK_iff.1 h1
    have e1:mayJ x.S x.J = true:=decide_eq_true h4
    rw [mayS_iff.2 h5,e1] at h
    simp at h
    omega
  · simp only [Bool.or_eq_false_iff,decide_eq_false_iff_not,Bool.not_eq_false'] at h
    obtain ⟨h1,h2,h3,h4,h5,h6,h7,h8⟩:=h
    have h9:JobOK x.S x.J:=by unfold mayJ at h2; simpa using h2
    unfold mayL1
    rw [Bool.eq_iff_iff,decide_eq_true_eq,lastM_iff h9]
    constructor
    · intro h; exact ⟨perOK_iff.2 ⟨h9.1,by omega,by omega⟩,by omega,by omega,h9,h⟩
    · intro h; exact h.2.2.2.2
theorem conRMay1_valid:ValidCon c28.P 92 conMay1:=flatCon_valid c28_good 100 (by kernel_rfl) fun x h=>⟨_,fRMay1 x.1 x.2,may1R_rez h⟩
noncomputable def c29:Cfg:=c28.addQuiet 92 conMay1
theorem c29_good:GoodCfg c29:=c28_good.addQuiet conRMay1_valid flatCon_quiet
def decPv1:AV→Option Int
  | .pv [c]=>c.i
  | _=>none
theorem AsArg.pv1 {v:AV} {n:Int} (h:decPv1 v = some n):AsArg v (.pv [.int .i64 n]):=by
  unfold decPv1 at h
  split at h
  · refine ⟨fun hr=>?_⟩
    cases hr with
    | pv hs hc hr =>
      obtain ⟨u,rfl,hu⟩:=hr.one_inv
      exact .pv hs hc ((AsArg.i h).reps hu) .nil
  · cases h
def dPv1:Dc Int:=⟨decPv1,fun n=>.pv [.int .i64 n],fun _ _ h=>.pv1 h⟩
theorem fMayC (x:Fu.Live) (n:Int):callC c29 100 78 [.agg (encLive x),.pv [.int .i64 n]] = .asrt (nowOK n) (.ret (.bool (!mayL1 x n),[])):=by kernel_rfl
def conMayC:Con:=flatCon (d2 dLive dPv1) (fun x=>nowOK x.2) fun x=>.bool (!mayL1 x.1 x.2)
theorem conMayC_valid:ValidCon c29.P 78 conMayC:=flatCon_valid c29_good 100 (by kernel_rfl) fun x h=>⟨_,fMayC x.1 x.2,.asrt h (.ret (.refl _) rfl)⟩
noncomputable def c30:Cfg:=c29.addQuiet 78 conMayC
theorem c30_good:GoodCfg c30:=c29_good.addQuiet conMayC_valid flatCon_quiet
def fnMay (n:Int):AV:=.fn (.func 78) [] [.pv [.int .i64 n]]
abbrev XI:=Int × (List Fu.Live × Int) × Int
def TI (x:XI):St:=⟨puts (J 19) [(0,.view .live x.2.1.1),(1,fnMay x.2.1.2),(7,.int .i64 x.1),(8,.int .i64 x.2.2)],[],0⟩
def sI:List Sh:=sets (Js 19) [(0,.keep),(1,.keep),(7,.keep),(8,.int)]
def eI:List Sh:=sets (Js 19) [(4,.keep)]
def badAt (x:List Fu.Live × Int) (i:Int):Bool:=!mayL1 (rd .live x.1 i) x.2
def RI (i:Int):Ex × St:=(.ret,⟨puts (J 19) [(4,.int .i64 i)],[],0⟩)
def EI (_:List Fu.Live × Int):Ex × St:=(.exit 0,⟨J 19,[],0⟩)
theorem bI (N : Int) (x : List Fu.Live × Int) (i : Int) : roundN c30 60 109 (loopAt c30.P 109 2) (norm2 0 [] [] sI) (norm2 0 [] [] eI) (TI (N, x, i)) =
    .ite (decide (i < N)) (.asrt (0≤i∧i < x.1.length) (.asrt (nowOK x.2) (.ite (badAt x i) (.ret (RI i)) (.ret (.normal,TI (N,x,IntKind.i64.wrap (i + 1))))))) (.ret (EI x)):=by kernel_rfl
def gI (σ:St):Option XI :=
  match nth σ.tmps 0,nth σ.tmps 1,nth σ.tmps 7,nth σ.tmps 8 with
  | .view .live xs,.fn (.func 78) [] [.pv [.int .i64 n]],.int .i64 N,.int .i64 i=>some (N,(xs,n),i)
  | _,_,_,_=>none
def okIx (x:List Fu.Live × Int) (i:Int):Prop:=i < x.1.length∧nowOK x.2
def brkIx (x:List Fu.Live × Int) (i:Int):Option Int:=bif badAt x i then some i else none
def LI:LoopCon:=countB 0 (norm2 0 [] [] sI) TI gI okIx (fun x _=>x) brkIx 0 RI EI
theorem lI (hs:SubOf c30.P 109 (.loop (loopAt c30.P 109 2))):SoundLoop c30 (loopAt c30.P 109 2) LI :=
  count_loop (C:=c30) (g:=109) (l:=2) c30_good 60 0 _ _ (Weak.norm2 0 [] [] sI) (Weak.norm2 0 [] [] eI) hs TI gI okIx (fun x _=>x) brkIx 0 RI EI (fun _=>by intro h; cases h) (fun _=>by intro h; cases h)
    (fun N x i h0 hi hm hok=>.of_eq (bI N x i) (by
      refine (Tree.out_ite_true (decide_eq_true hi)).2 ⟨⟨h0,hok.1⟩,hok.2,?_⟩
      unfold brkIx
      cases badAt x i with
      | true=>exact (Tree.out_ite_true rfl).2 rfl
      | false =>
        unfold maxI64 at hm
        rw [wrap_fits (by omega) (by omega)]
        exact (Tree.out_ite_false rfl).2 rfl))
    (fun N x i hi=>.of_eq (bI N x i) ((Tree.out_ite_false (decide_eq_false (by omega))).2 rfl))
noncomputable def c31:Cfg:=c30.addLoop 109 2 LI
theorem c31_good:GoodCfg c31:=c30_good.addLoop (by unfold OneLoop; kernel_rfl) lI
def containsT (xs:List Fu.Live) (n:Int):Tree (AV × List Blk) :=
  .asrt (0 = 0∧TI ((xs.length:Int),(xs,n),0) = TI ((xs.length:Int),(xs,n),0)) (.asrt (0≤(0:Int)∧(xs.length:Int)≤maxI64∧okI (fun x _=>x) brkIx okIx ((xs.length:Int) - 0).toNat (xs,n) 0)
    (optT 0 (brkI (fun x _=>x) brkIx ((xs.length:Int) - 0).toNat (xs,n) 0) (fun i=>.ret (.bool (decide (i≥0)),[])) (.ret (.blit false,[]))))
theorem fContains (xs:List Fu.Live) (n:Int):callC c31 60 77 [.view .live xs,fnMay n] = containsT xs n:=by kernel_rfl
theorem brkIx_any (xs:List Fu.Live) (n:Int):∀ (k:Nat) (i:Int),0≤i→i + k = xs.length→match brkI (fun x _=>x) brkIx k (xs,n) i with | some j=>0≤j∧(xs.drop i.toNat).any (fun x=>!mayL1 x n) = true | none=>(xs.drop i.toNat).any (fun x=>!mayL1 x n) = false
  | 0,i,h0,hk=>by
    rw [drop_end (by omega)]; rfl
  | k + 1,i,h0,hk=>by
    rw [drop_rd (r:=.live) h0 (by omega),List.any_cons]
    unfold brkI
    have e:brkIx (xs,n) i = bif !mayL1 (rd .live xs i) n then some i else none:=rfl
    rw [e]
    cases hb:!mayL1 (rd .live xs i) n with
    | true=>exact ⟨h0,rfl⟩
    | false=>exact brkIx_any xs n k (i + 1) (by omega) (by omega)
theorem okIx_all (xs:List Fu.Live) (n:Int) (hn:nowOK n):∀ (k:Nat) (i:Int),i + k = xs.length→okI (fun x _=>x) brkIx okIx k (xs,n) i
  | 0,_,_=>trivial
  | k + 1,i,h=>⟨⟨(show i < (xs.length:Int) by omega),hn⟩,fun _=>okIx_all xs n hn k (i + 1) (by omega)⟩
def decFnMay:AV→Option Int
  | .fn (.func 78) [] [p]=>decPv1 p
  | _=>none
def dFnMay:Dc Int:=⟨decFnMay,fnMay,fun v n h=>by
  unfold decFnMay at h
  split at h
  · refine ⟨fun hr=>?_⟩
    cases hr with
    | fn f h1 h2=>cases h1; obtain ⟨u,rfl,hu⟩:=h2.one_inv; exact .fn _ .nil ((AsArg.pv1 h).reps hu) .nil
  · cases h⟩
def okN (x:List Fu.Live × Int):Prop:=(x.1.length:Int) < 17592186044416∧nowOK x.2
def conContains:Con:=flatCon (d2 (dView .live) dFnMay) okN fun x=>.bool (x.1.any fun y=>!mayL1 y x.2)
theorem containsT_rez {xs:List Fu.Live} {n:Int} (h1:(xs.length:Int) < 17592186044416) (h2:nowOK n):Rez (containsT xs n) (.bool (xs.any fun y=>!mayL1 y n),[]):=by
  refine .asrt ⟨rfl,rfl⟩ (.asrt ⟨by omega,by unfold maxI64; omega,okIx_all xs n h2 _ 0 (by omega)⟩ ?_)
  have hx:=brkIx_any xs n ((xs.length:Int) - 0).toNat 0 (by omega) (by omega)
  simp only [Int.toNat_zero,List.drop_zero] at hx
  cases hb:brkI (fun x _=>x) brkIx ((xs.length:Int) - 0).toNat (xs,n) 0 with
  | some j =>
    rw [hb] at hx
    exact .itet rfl (retB (by rw [hx.2]; exact decide_eq_true hx.1))
  | none =>
    rw [hb] at hx
    exact .itee rfl (.ret (.blit hx.symm) rfl)
theorem conContains_valid:ValidCon c31.P 77 conContains:=flatCon_valid c31_good 60 (by kernel_rfl) fun x h=>⟨_,fContains x.1 x.2,containsT_rez h.1 h.2⟩
noncomputable def c32:Cfg:=c31.addQuiet 77 conContains
theorem c32_good:GoodCfg c32:=c31_good.addQuiet conContains_valid flatCon_quiet
def smallL (l:List Fu.Live):Prop:=(l.length:Int) < 17592186044416
def conMayL:Con:=flatCon (d2 (dView .live) dInt) (fun x=>smallL x.1) fun x=>.bool (mayL x.1 x.2)
def mayLT (l:List Fu.Live) (n:Int):Tree (AV × List Blk):=.ite (decide ((l.length:Int) > 4)) noB (.ite (!(decide (n≥0) && decide (n≤549755813888))) noB (.asrt (okN (l,n)) (.ret (.bool (!l.any fun y=>!mayL1 y n),[]))))
theorem fMayL (l:List Fu.Live) (n:Int):callC c32 60 55 [.view .live l,.int .i64 n] = mayLT l n:=by kernel_rfl
theorem any_not_all {α:Type} (l:List α) (p:α→Bool):(!l.any fun y=>!p y) = l.all p:=by
  induction l with
  | nil=>rfl
  | cons x l ih=>rw [List.any_cons,List.all_cons,Bool.not_or,ih,Bool.not_not]
theorem mayLT_rez {l:List Fu.Live} {n:Int} (h:smallL l):Rez (mayLT l n) (.bool (mayL l n),[]):=by
  refine ite_rez (fun h1=>noB_rez ?_) fun h0=>ite_rez (fun h1=>noB_rez ?_) fun h1=>.asrt ⟨h,?_⟩ (retB ?_)
  · have:=of_decide_eq_true h1
    unfold mayL
    rw [decide_eq_false (by omega),Bool.false_and]
  · have:(decide (0≤n) && decide (n≤549755813888)) = false:=by simpa only [Bool.not_eq_true'] using h1
    unfold mayL
    rw [this,Bool.false_and,Bool.and_false]
  · simp at h1; unfold nowOK; simp only; omega
  · have h0':=of_decide_eq_false h0
    rw [any_not_all]
    unfold mayL
    rw [decide_eq_true (show l.length≤4 by omega),show (decide (0≤n) && decide (n≤549755813888)) = true by simpa only [Bool.not_eq_false'] using h1]
    rfl
theorem conMayL_valid:ValidCon c32.P 55 conMayL:=flatCon_valid c32_good 60 (by kernel_rfl) fun x h=>⟨_,fMayL x.1 x.2,mayLT_rez h⟩
noncomputable def c33:Cfg:=c32.addQuiet 55 conMayL
theorem c33_good:GoodCfg c33:=c32_good.addQuiet conMayL_valid flatCon_quiet
end Go.Fx
namespace Go.Fx
open Go Go.Proofs
noncomputable def bCl:Code:=bodyOf c33.P 112
theorem bCl_eq:bCl = clB bCl:=by kernel_rfl
def boundL (xs:List Fu.Live):Prop:=(xs.length:Int) * 136≤140737488355328
theorem cl_h0 (xs:List Fu.Live):exec c33 30 112 (Code.region 0 (clO0 bCl) false) ⟨cl0 .live xs,[],0⟩ = .ret (.normal,⟨cl1 .live xs,[],0⟩):=by kernel_rfl
theorem cl_h2 (xs:List Fu.Live):exec c33 30 112 ((Code.region 2 (clO2 bCl) false).seq .ret) ⟨cl2 .live xs true,[],0⟩ = .ret (.ret,⟨cl2 .live xs true,[],0⟩):=by kernel_rfl
theorem cl_h3 (xs:List Fu.Live):roundN c33 30 112 ((Code.region 3 (clO3 bCl) false).seq .ret) (norm2 0 [] [] []) (norm2 0 [.tmp 2] [0] (sets (Js 8) [(2,.keep)])) ⟨cl2 .live xs false,[],0⟩ = .asrt (([] ++ xs).length * 136≤140737488355328) (.ret (.ret,clEnd .live 60 xs)):=by kernel_rfl
theorem cl_weak (xs:List Fu.Live) (h:xs = []):Weak 0 ⟨cl2 .live xs true,[],0⟩ (clEnd .live 60 xs):=by
  subst h
  exact (Weak.ownSlot 0 2 .live 60 ⟨cl2 .live [] true,[],0⟩).trans (Weak.gens 0 (sets (Js 8) [(2,.keep)]) _)
theorem clRun_sound:SoundRun c33 (cloneRun 112 bCl .live 60 boundL):=by
  have:=cloneRun_sound c33_good (g:=112) (n:=30) (o0:=clO0 bCl) (m:=opNo (clO1 bCl) 0) (q:=opNo (clO1 bCl) 1) (o2:=clO2 bCl) (o3:=clO3 bCl) (r:=.live) (e:=60) (bound:=boundL) (t':=35)
    (by kernel_rfl) (by kernel_rfl) (by kernel_rfl) (by kernel_rfl) (by kernel_rfl) (by kernel_rfl) (by kernel_rfl:c33.P.underlying 35 = some (.slice 60))
    (fun xs=>.of_eq (cl_h0 xs) rfl) (fun xs=>⟨_,.of_eq (cl_h2 xs) rfl,cl_weak xs⟩) (fun xs hb=>?_)
  · rw [← show bCl = cloneBody (clO0 bCl) (opNo (clO1 bCl) 0) (opNo (clO1 bCl) 1) (clO2 bCl) (clO3 bCl) from bCl_eq] at this
    exact this
  · exact round_ret (Weak.norm2 0 [.tmp 2] [0] (sets (Js 8) [(2,.keep)])) (cl_h3 xs) (by unfold boundL at hb; simp only [List.nil_append]; omega)
theorem cl_tree (xs:List Fu.Live):callR c33 (cloneRun 112 bCl .live 60 boundL) 112 [.view .live xs] =
  .asrt (112 = 112∧bCl = bCl∧(⟨cl0 .live xs,[],0⟩:St) = ⟨cl0 .live xs,[],0⟩∧boundL xs) (.ret (.own 0,[.rows .live 60 xs])):=by kernel_rfl
def conClone:Con:=resCon (d1 (dView .live)) boundL fun xs=>(.own 0,[.rows .live 60 xs])
theorem conClone_valid:ValidCon c33.P 112 conClone:=clone_valid clRun_sound (by kernel_rfl) fun xs h=>.of_eq (cl_tree xs) ⟨⟨rfl,rfl,rfl,h⟩,rfl⟩
noncomputable def c34:Cfg:=c33.addCon 112 conClone
theorem c34_good:GoodCfg c34:=c33_good.addCon conClone_valid (by kernel_rfl)
end Go.Fx
