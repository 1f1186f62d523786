import Derived.Test.YtgefkgmfbmdooaaGreatT10
import Derived.Test.YtgefkgmfbmdooaaGreatTZ
namespace Go.Fx
open Go Go.Proofs
def upQ (a b:Int):Int:=bif decide (a / b * b < a) then a / b + 1 else a / b
theorem upQ_eq {a b:Int} (hb:0 < b):upQ a b = cdiv a b:=by
  have e:=Int.mul_ediv_add_emod a b
  have l:=Int.emod_lt_of_pos a hb
  have n:=Int.emod_nonneg a (show b≠0 by omega)
  rw [Int.mul_comm] at e
  symm
  unfold upQ
  by_cases h:a / b * b < a
  · rw [decide_eq_true h]
    refine cdiv_unique hb ?_ ?_ <;> simp only [cond_true,Int.add_mul,Int.one_mul] <;> omega
  · rw [decide_eq_false h]
    refine cdiv_unique hb ?_ ?_ <;> simp only [cond_false] <;> omega
def upW (a b c:Int):Int:=bif decide (c < a) then IntKind.i64.wrap (IntKind.i64.wrap (a.tdiv b) + 1) else IntKind.i64.wrap (a.tdiv b)
theorem upW_eq {a b c:Int} (h0:0≤a) (h1:a≤1152921504606846976) (hb:0 < b) (hc:c = a / b * b):upW a b c = cdiv a b:=by
  have hq:0≤a / b:=Int.ediv_nonneg h0 (Int.le_of_lt hb)
  have hq2:a / b≤a:=Int.ediv_le_self _ h0
  unfold upW
  rw [Int.tdiv_eq_ediv_of_nonneg h0,wrap_fits (n:=a / b) (by omega) (by omega),wrap_fits (n:=a / b + 1) (by omega) (by omega),hc]
  exact upQ_eq hb
def most2T (m k n:Int):Tree (AV × List Blk):=.ite (!mayP m k || !(decide (n≥0) && decide (n≤1099511627776))) (.ret (.lit .i64 0,[])) (.asrt (k≠0) (.ret (.int .i64 (upW (IntKind.i64.wrap (n * m)) k (IntKind.i64.wrap (IntKind.i64.wrap ((IntKind.i64.wrap (n * m)).tdiv k) * k))),[])))
theorem fMost2 (m k n:Int):callC c138 60 137 [.int .i64 m,.int .i64 k,.int .i64 n] = most2T m k n:=by kernel_rfl
theorem conMost2_valid:ValidCon c138.P 137 conMost:=plainCon_valid c138_good 60 (by kernel_rfl) fun ⟨m,k,n⟩=>⟨_,fMost2 m k n,by
  unfold most2T mostV
  cases hm:mayP m k && inJ n with
  | false =>
    refine ite_rez (fun _=>.ret (.lit rfl) rfl) fun h=>?_
    have:(mayP m k && inJ n) = true:=by
      unfold inJ
      simpa using h
    rw [this] at hm; cases hm
  | true =>
    have hm':=hm
    rw [Bool.and_eq_true] at hm'
    obtain ⟨h1,h2⟩:=hm'
    have hp:=h1
    unfold mayP at hp
    unfold inJ at h2
    simp only [Bool.and_eq_true,decide_eq_true_eq] at hp h2
    have hc:(!mayP m k || !(decide (n≥0) && decide (n≤1099511627776))) = false:=by
      rw [h1,decide_eq_true (show n≥0 by omega),decide_eq_true (show n≤1099511627776 by omega)]; rfl
    refine .itee hc (.asrt (by omega) (.ret (.eq ?_) rfl))
    have hnm:0≤n * m:=Int.mul_nonneg (by omega) (by omega)
    have hnm2:n * m≤1099511627776 * 6:=Int.mul_le_mul (by omega) (by omega) (by omega) (by omega)
    have hq:0≤n * m / k:=Int.ediv_nonneg hnm (by omega)
    have hq3:n * m / k * k≤n * m:=Int.ediv_mul_le _ (by omega)
    have hq4:0≤n * m / k * k:=Int.mul_nonneg hq (by omega)
    rw [wrap_fits (n:=n * m) (by omega) (by omega)]
    have hq2:n * m / k≤n * m:=Int.ediv_le_self _ hnm
    rw [upW_eq hnm (by omega) (by omega) (by
      rw [Int.tdiv_eq_ediv_of_nonneg hnm,wrap_fits (n:=n * m / k) (by omega) (by omega),wrap_fits (n:=n * m / k * k) (by omega) (by omega)])]
    rfl⟩
noncomputable def c139:Cfg:=c138.addQuiet 137 conMost
theorem c139_good:GoodCfg c139:=c138_good.addQuiet conMost2_valid plainCon_quiet
def at6A (s:Fu.Spec):Int:=IntKind.i64.wrap (IntKind.i64.wrap (s.C * s.M) * 1048576)
def at6B (s:Fu.Spec) (p:Int):Int:=IntKind.i64.wrap (s.K * p)
def at6T (s:Fu.Spec) (p:Int):Tree (AV × List Blk):=.ite (!mayS s || (decide (p < s.T) || decide (p > s.Max))) (.ret (.lit .i64 0,[])) (.asrt (at6B s p≠0) (.ret (.int .i64 (upW (at6A s) (at6B s p) (IntKind.i64.wrap (IntKind.i64.wrap (IntKind.i64.wrap ((at6A s).tdiv (at6B s p)) * s.K) * p))),[])))
theorem fAt6 (s:Fu.Spec) (p:Int):callC c139 60 98 [.agg (encSpec s),.int .i64 p] = at6T s p:=by kernel_rfl
def conAt6:Con:=plainCon (d2 dSpec dInt) fun x=>.int .i64 (unitsV x.1 x.2)
theorem conAt6_valid:ValidCon c139.P 98 conAt6:=plainCon_valid c139_good 60 (by kernel_rfl) fun ⟨s,p⟩=>⟨_,fAt6 s p,by
  unfold at6T unitsV
  cases hk:perOK s p with
  | false =>
    refine ite_rez (fun _=>.ret (.lit rfl) rfl) fun h=>?_
    simp only [Bool.or_eq_false_iff,Bool.not_eq_false',decide_eq_false_iff_not] at h
    have:perOK s p = true:=by
      unfold perOK
      rw [h.1,decide_eq_true (show s.T≤p by omega),decide_eq_true (show p≤s.Max by omega)]
      rfl
    rw [this] at hk; cases hk
  | true =>
    obtain ⟨⟨⟨c1,c2⟩,⟨h3,h4,h5⟩,⟨h6,h7,h8⟩,h9⟩,p1,p2⟩:=perOK_iff.1 hk
    have hs:mayS s = true:=by
      unfold perOK at hk
      rw [Bool.and_eq_true] at hk
      exact hk.1
    have hc:(!mayS s || (decide (p < s.T) || decide (p > s.Max))) = false:=by
      rw [hs,decide_eq_false (show ¬ p < s.T by omega),decide_eq_false (show ¬ p > s.Max by omega)]; rfl
    have a1:0≤s.C * s.M:=Int.mul_nonneg (by omega) (by omega)
    have a2:s.C * s.M≤6 * 6:=Int.mul_le_mul (by omega) (by omega) (by omega) (by omega)
    have b1:1 * 1≤s.K * p:=Int.mul_le_mul (by omega) (by omega) (by omega) (by omega)
    have b2:s.K * p≤6 * 48:=Int.mul_le_mul (by omega) (by omega) (by omega) (by omega)
    have ea:at6A s = s.C * s.M * 1048576:=by
      unfold at6A
      rw [wrap_fits (n:=s.C * s.M) (by omega) (by omega),wrap_fits (n:=s.C * s.M * 1048576) (by omega) (by omega)]
    have eb:at6B s p = s.K * p:=by
      unfold at6B
      rw [wrap_fits (n:=s.K * p) (by omega) (by omega)]
    rw [ea,eb]
    refine .itee hc (.asrt (by omega) (.ret (.eq ?_) rfl))
    have hq:0≤s.C * s.M * 1048576 / (s.K * p):=Int.ediv_nonneg (by omega) (by omega)
    have hq2:s.C * s.M * 1048576 / (s.K * p)≤s.C * s.M * 1048576:=Int.ediv_le_self _ (by omega)
    have hq3:s.C * s.M * 1048576 / (s.K * p) * (s.K * p)≤s.C * s.M * 1048576:=Int.ediv_mul_le _ (by omega)
    have hq4:0≤s.C * s.M * 1048576 / (s.K * p) * s.K:=Int.mul_nonneg hq (by omega)
    have hq5:s.C * s.M * 1048576 / (s.K * p) * s.K≤s.C * s.M * 1048576 * 6:=Int.mul_le_mul hq2 (by omega) (by omega) (by omega)
    have hq6:0≤s.C * s.M * 1048576 / (s.K * p) * (s.K * p):=Int.mul_nonneg hq (by omega)
    rw [upW_eq (by omega) (by omega) (by omega) (by
      rw [Int.tdiv_eq_ediv_of_nonneg (by omega),wrap_fits (n:=s.C * s.M * 1048576 / (s.K * p)) (by omega) (by omega),wrap_fits (n:=s.C * s.M * 1048576 / (s.K * p) * s.K) (by omega) (by omega),Int.mul_assoc,wrap_fits (by omega) (by omega)])]
    rfl⟩
noncomputable def c140:Cfg:=c139.addQuiet 98 conAt6
theorem c140_good:GoodCfg c140:=c139_good.addQuiet conAt6_valid plainCon_quiet
theorem fMay9 (x:Fu.Fix):callC c140 60 97 [.agg (encFix x)] = .ret (.bool (mayS x.S && (decide (x.P≥x.S.T) && decide (x.P≤x.S.Max))),[]):=by kernel_rfl
theorem mayF_perE (x:Fu.Fix):mayF x = perOK x.S x.P:=by
  cases hk:perOK x.S x.P with
  | true=>exact decide_eq_true (unitsV_pos hk)
  | false =>
    unfold mayF unitsV
    rw [hk]
    rfl
theorem conMay9_valid:ValidCon c140.P 97 conMayF:=plainCon_valid c140_good 60 (by kernel_rfl) fun x=>⟨_,fMay9 x,.ret (by
  show AsArg (.bool (perOK x.S x.P)) (.bool (mayF x))
  rw [mayF_perE]
  exact .refl _) rfl⟩
noncomputable def c141:Cfg:=c140.addQuiet 97 conMayF
theorem c141_good:GoodCfg c141:=c140_good.addQuiet conMay9_valid plainCon_quiet
def of9T (x:Fu.Fix) (n:Int):Tree (AV × List Blk):=.ite (!mayF x || (decide (n < 0) || decide (n > 1099511627776))) (.ret (.lit .i64 0,[])) (.asrt (x.P≠0) (.ret (.int .i64 (IntKind.i64.wrap (x.S.C * mostV x.S.M x.S.K (IntKind.i64.wrap (n.tdiv x.P)))),[])))
theorem fOf9 (x:Fu.Fix) (n:Int):callC c141 60 121 [.agg (encFix x),.int .i64 n] = of9T x n:=by kernel_rfl
theorem mostV_le {m k n:Int} (h:mayP m k = true) (h0:0≤n) (h1:n≤1099511627776):0≤mostV m k n∧mostV m k n≤6597069766656:=by
  obtain ⟨a,b,c⟩:=mayP_iff.1 h
  unfold mostV inJ
  rw [h,decide_eq_true (show n≥0 by omega),decide_eq_true h1]
  have hnm:0≤n * m:=Int.mul_nonneg (by omega) (by omega)
  have hnm2:n * m≤1099511627776 * 6:=Int.mul_le_mul (by omega) (by omega) (by omega) (by omega)
  simp only [Bool.and_self,cond_true]
  refine ⟨cdiv_nonneg (by omega) hnm,Int.le_trans (cdiv_le_self (by omega) hnm) (by omega)⟩
theorem conOf9_valid:ValidCon c141.P 121 conOf:=plainCon_valid c141_good 60 (by kernel_rfl) fun ⟨x,n⟩=>⟨_,fOf9 x n,by
  unfold of9T ofV
  cases hm:mayF x with
  | false=>exact .itet rfl (.ret (.lit rfl) rfl)
  | true =>
    obtain ⟨⟨⟨c1,c2⟩,⟨h3,h4,h5⟩,⟨h6,h7,h8⟩,h9⟩,p1,p2⟩:=perOK_iff.1 (mayF_C hm).1
    refine ite_rez (fun h=>.ret (.lit ?_) rfl) fun h=>.asrt (by omega) (.ret (.eq ?_) rfl)
    · have:(decide (0≤n) && decide (n≤1099511627776)) = false:=by
        simp only [Bool.not_true,Bool.false_or,Bool.or_eq_true,decide_eq_true_eq] at h
        simp only [Bool.and_eq_false_iff,decide_eq_false_iff_not]
        omega
      rw [this]; rfl
    · simp only [Bool.not_true,Bool.false_or,Bool.or_eq_false_iff,decide_eq_false_iff_not] at h
      have h0:0≤n:=by omega
      have h1:n≤1099511627776:=by omega
      rw [decide_eq_true h0,decide_eq_true h1,Int.tdiv_eq_ediv_of_nonneg h0]
      have q0:0≤n / x.P:=Int.ediv_nonneg h0 (by omega)
      have q1:n / x.P≤n:=Int.ediv_le_self _ h0
      rw [wrap_fits (n:=n / x.P) (by omega) (by omega)]
      obtain ⟨m0,m1⟩:=mostV_le (m:=x.S.M) (k:=x.S.K) (n:=n / x.P) (mayP_iff.2 ⟨by omega,by omega,by omega⟩) q0 (by omega)
      have k0:0≤x.S.C * mostV x.S.M x.S.K (n / x.P):=Int.mul_nonneg (by omega) m0
      have k1:x.S.C * mostV x.S.M x.S.K (n / x.P)≤6 * 6597069766656:=Int.mul_le_mul (by omega) m1 m0 (by omega)
      rw [wrap_fits (by omega) (by omega)]
      rfl⟩
noncomputable def c142:Cfg:=c141.addQuiet 121 conOf
theorem c142_good:GoodCfg c142:=c141_good.addQuiet conOf9_valid plainCon_quiet
abbrev A9m:=List Fu.Fix × Int
def T9m (x:A9m × Int):St:=⟨puts (J 39) [(0,.view .fix x.1.1),(3,.int .i64 x.1.2),(4,.int .i64 x.2)],[],0⟩
def s9m:List Sh:=sets (Js 39) [(0,.keep),(3,.int),(4,.int)]
def r9m:List Sh:=sets (Js 39) [(2,.keep)]
def x9m:List Sh:=sets (Js 39) [(0,.keep),(3,.int)]
abbrev A9a:=List Fu.Fix × Int × Int
def T9a (x:A9a × Int):St:=⟨puts (J 27) [(0,.view .fix x.1.1),(1,.int .i64 x.1.2.1),(5,.int .i64 x.1.2.2),(6,.int .i64 x.2)],[],0⟩
def s9a:List Sh:=sets (Js 27) [(0,.keep),(1,.int),(5,.int),(6,.int)]
def e9a:List Sh:=sets (Js 27) [(5,.int)]
abbrev A9h:=List Fu.Fix × Int
def T9h (x:A9h × Int):St:=⟨puts (J 28) [(0,.view .fix x.1.1),(4,.int .i64 x.1.2),(5,.int .i64 x.2)],[],0⟩
def s9h:List Sh:=sets (Js 28) [(0,.keep),(4,.int),(5,.int)]
def e9h:List Sh:=sets (Js 28) [(4,.int)]
def T9f (x:A9h × Int):St:=⟨puts (J 18) [(0,.view .fix x.1.1),(3,.int .i64 x.1.2),(4,.int .i64 x.2)],[],0⟩
def s9f:List Sh:=sets (Js 18) [(0,.keep),(3,.int),(4,.int)]
def e9f:List Sh:=sets (Js 18) [(2,.keep)]
end Go.Fx
