import Derived.Test.YtneflbpekennkaaGreatB25
/- Contracts: one task. -/
namespace Go.Fx
open Go Go.Proofs

def dTask : Dc Fu.Task := dRow .task
/-- A task as it is looked on. -/
def lookJ (t : Fu.Task) : Fu.Job := bif t.J.On then { t.J with D := t.S.C } else t.J
def liveK (t : Fu.Task) : Fu.Live := ⟨t.S, lookJ t, t.Next, t.At, t.N⟩
def overK (t : Fu.Task) : Int := bif t.J.On then IntKind.i64.wrap (t.N - 1) else t.N
theorem fTaskLive (t : Fu.Task) : callC c57 60 53 [.agg (encTask t)] = .ite t.J.On (.ret (.agg (encLive ⟨t.S, { t.J with D := t.S.C }, t.Next, t.At, t.N⟩), [])) (.ret (.agg (encLive ⟨t.S, t.J, t.Next, t.At, t.N⟩), [])) := by kernel_rfl
def conTaskLive : Con := plainCon (d1 dTask) fun t => .agg (encLive (liveK t))
theorem conTaskLive_valid : ValidCon c57.P 53 conTaskLive := plainCon_valid c57_good 60 (by kernel_rfl) fun t => ⟨_, fTaskLive t, by
  unfold liveK lookJ
  cases h : t.J.On with
  | true => exact .itet rfl (.ret (.refl _) rfl)
  | false => exact .itee rfl (.ret (.refl _) rfl)⟩
noncomputable def c58 : Cfg := c57.addQuiet 53 conTaskLive
theorem c58_good : GoodCfg c58 := c57_good.addQuiet conTaskLive_valid plainCon_quiet
theorem fOver (t : Fu.Task) : callC c58 60 55 [.agg (encTask t)] = .ret (.int .i64 (overK t), []) := by kernel_rfl
def conOver : Con := plainCon (d1 dTask) fun t => .int .i64 (overK t)
theorem conOver_valid : ValidCon c58.P 55 conOver := plainCon_valid c58_good 60 (by kernel_rfl) fun t => ⟨_, fOver t, .ret (.refl _) rfl⟩
noncomputable def c59 : Cfg := c58.addQuiet 55 conOver
theorem c59_good : GoodCfg c59 := c58_good.addQuiet conOver_valid plainCon_quiet
/-! ### task.May, task.New -/
def mayK (t : Fu.Task) (now : Int) : Bool := !(decide (t.ID < 0) || (decide (t.ID > 549755813888) || (decide (t.P < 1) || (decide (t.P > 48) || !ringOK t.H)))) && (mayL [liveK t] now && (mayJ t.S t.J && t.H.N == minI (overK t) 60))
theorem fTaskMay (t : Fu.Task) (now : Int) : callC c59 60 22 [.agg (encTask t), .int .i64 now] = .ite (decide (t.ID < 0) || (decide (t.ID > 549755813888) || (decide (t.P < 1) || (decide (t.P > 48) || !ringOK t.H)))) noB
    (.asrt (smallL [liveK t]) (.ite (mayL [liveK t] now) (.ite (mayJ t.S t.J) (.ret (.bool (t.H.N == minI (overK t) 60), [])) noB) noB)) := by kernel_rfl
def conTaskMay : Con := plainCon (d2 dTask dInt) fun x => .bool (mayK x.1 x.2)
theorem conTaskMay_valid : ValidCon c59.P 22 conTaskMay := plainCon_valid c59_good 60 (by kernel_rfl) fun ⟨t, now⟩ => ⟨_, fTaskMay t now, by
  unfold mayK
  refine ite_rez (fun h => noB_rez (by rw [h]; rfl)) fun h => .asrt (by unfold smallL; simp) ?_
  rw [h]
  refine ite_rez (fun h2 => ite_rez (fun h3 => retB ?_) fun h3 => noB_rez ?_) fun h2 => noB_rez ?_ <;> simp [h2, *]⟩
noncomputable def c60 : Cfg := c59.addQuiet 22 conTaskMay
theorem c60_good : GoodCfg c60 := c59_good.addQuiet conTaskMay_valid plainCon_quiet
def zeroK : Fu.Task := ⟨0, ⟨0, 0, 0, 0, 0, 0⟩, 0, 0, 0, 0, zeroJ, ⟨0, 0⟩, false⟩
def newK (id : Int) (s : Fu.Spec) (p now : Int) : Fu.Task := ⟨id, s, p, p, now, 0, zeroJ, ⟨0, 0⟩, true⟩
def zeroKA : AV := .agg [.lit .i64 0, .lit .i64 0, .lit .i64 0, .lit .i64 0, .lit .i64 0, .lit .i64 0, .lit .i64 0, .lit .i64 0, .lit .i64 0, .lit .i64 0, .lit .i64 0, .blit false, .lit .i64 0, .lit .i64 0, .lit .i64 0, .blit false, .lit .i64 0, .lit .i64 0, .lit .i64 0, .lit .i64 0, .lit .u64 0, .blit false]
def newKA (id : Int) (s : Fu.Spec) (p now : Int) : AV := .agg [.int .i64 id, .int .i64 s.C, .int .i64 s.T, .int .i64 s.Max, .int .i64 s.M, .int .i64 s.K, .int .i64 s.E, .int .i64 p, .int .i64 p, .int .i64 now, .lit .i64 0, .blit false, .lit .i64 0, .lit .i64 0, .lit .i64 0, .blit false, .lit .i64 0, .lit .i64 0, .lit .i64 0, .lit .i64 0, .lit .u64 0, .blit true]
theorem zeroK_as : AsArg zeroKA (.agg (encTask zeroK)) :=
  .agg (.cons (.lit rfl) (.cons (.lit rfl) (.cons (.lit rfl) (.cons (.lit rfl) (.cons (.lit rfl) (.cons (.lit rfl) (.cons (.lit rfl) (.cons (.lit rfl) (.cons (.lit rfl) (.cons (.lit rfl) (.cons (.lit rfl) (.cons (.blit rfl) (.cons (.lit rfl) (.cons (.lit rfl) (.cons (.lit rfl) (.cons (.blit rfl) (.cons (.lit rfl) (.cons (.lit rfl) (.cons (.lit rfl) (.cons (.lit rfl) (.cons (.lit rfl) (.cons (.blit rfl) .nil))))))))))))))))))))))
theorem newK_as (id : Int) (s : Fu.Spec) (p now : Int) : AsArg (newKA id s p now) (.agg (encTask (newK id s p now))) :=
  .agg (.cons (.refl _) (.cons (.refl _) (.cons (.refl _) (.cons (.refl _) (.cons (.refl _) (.cons (.refl _) (.cons (.refl _) (.cons (.refl _) (.cons (.refl _) (.cons (.refl _) (.cons (.lit rfl) (.cons (.blit rfl) (.cons (.lit rfl) (.cons (.lit rfl) (.cons (.lit rfl) (.cons (.blit rfl) (.cons (.lit rfl) (.cons (.lit rfl) (.cons (.lit rfl) (.cons (.lit rfl) (.cons (.lit rfl) (.cons (.blit rfl) .nil))))))))))))))))))))))
theorem fTaskNew (id : Int) (s : Fu.Spec) (p now : Int) : callC c60 60 47 [.int .i64 id, .agg (encSpec s), .int .i64 p, .int .i64 now] = .ite (!mayK (newK id s p now) now) (.ret (.tup [zeroKA, .blit false], [])) (.ret (.tup [newKA id s p now, .blit true], [])) := by kernel_rfl
def newKR (id : Int) (s : Fu.Spec) (p now : Int) : Fu.Task := bif mayK (newK id s p now) now then newK id s p now else zeroK
def conTaskNew : Con := plainCon (d4 dInt dSpec dInt dInt) fun x => .tup [.agg (encTask (newKR x.1 x.2.1 x.2.2.1 x.2.2.2)), .bool (mayK (newK x.1 x.2.1 x.2.2.1 x.2.2.2) x.2.2.2)]
theorem conTaskNew_valid : ValidCon c60.P 47 conTaskNew := plainCon_valid c60_good 60 (by kernel_rfl) fun ⟨id, s, p, now⟩ => ⟨_, fTaskNew id s p now, by
  unfold newKR
  cases h : mayK (newK id s p now) now with
  | true => exact .itee rfl (.ret (.tup (.cons (newK_as id s p now) (.cons (.blit rfl) .nil))) rfl)
  | false => exact .itet rfl (.ret (.tup (.cons zeroK_as (.cons (.blit rfl) .nil))) rfl)⟩
noncomputable def c61 : Cfg := c60.addQuiet 47 conTaskNew
theorem c61_good : GoodCfg c61 := c60_good.addQuiet conTaskNew_valid plainCon_quiet
def turnOK (t : Fu.Task) (s : Fu.Spec) (p : Int) : Bool := !(s.C != t.S.C || (s.M != t.S.M || (s.K != t.S.K || unitsV s p == 0)))
def turnK (t : Fu.Task) (s : Fu.Spec) (p : Int) : Fu.Task := bif turnOK t s p then { t with S := s, Next := p } else t
def endK (t : Fu.Task) (now : Int) : Fu.Task := bif overJ t.J now then { t with J := zeroJ, H := putRing t.H false } else t
def endA (t : Fu.Task) (now : Int) : Tree (AV × List Blk) := .ite (!t.J.On) (.ret (.tup [.agg (encTask t), .lit .i64 0], [])) (.ite (atF t.J now == 0) (.ret (.tup [.agg (encTask { t with J := atJ t.J now }), .int .i64 (atF t.J now)], []))
    (.ret (.tup [.agg (encTask { t with J := atJ t.J now, H := putRing t.H (atF t.J now == 1) }), .int .i64 (atF t.J now)], [])))
theorem fTaskEnd (t : Fu.Task) (now : Int) : callC c61 60 67 [.agg (encTask t), .int .i64 now] = endA t now := by kernel_rfl
def conTaskEnd : Con := plainCon (d2 dTask dInt) fun x => .tup [.agg (encTask (endK x.1 x.2)), .int .i64 (atF x.1.J x.2)]
theorem conTaskEnd_valid : ValidCon c61.P 67 conTaskEnd := plainCon_valid c61_good 60 (by kernel_rfl) fun ⟨t, now⟩ => ⟨_, fTaskEnd t now, by
  unfold endA endK
  cases h : overJ t.J now with
  | true =>
    have ho : t.J.On = true := by unfold overJ at h; simp at h; exact h.1
    have e1 : atF t.J now = 3 := by simp [atF, h]
    have e2 : atJ t.J now = zeroJ := by simp [atJ, h]
    rw [ho, e1, e2]
    exact .itee rfl (.itee rfl (.ret (.refl _) rfl))
  | false =>
    have e1 : atF t.J now = 0 := by simp [atF, h]
    have e2 : atJ t.J now = t.J := by simp [atJ, h]
    rw [e1, e2]
    exact ite_rez (fun _ => .ret (.tup (.cons (.refl _) (.cons (.lit rfl) .nil))) rfl) fun _ => .itet rfl (.ret (.refl _) rfl)⟩
noncomputable def c62 : Cfg := c61.addQuiet 67 conTaskEnd
theorem c62_good : GoodCfg c62 := c61_good.addQuiet conTaskEnd_valid plainCon_quiet
def begJ (t : Fu.Task) (now d : Int) : Fu.Job := jobOf t.S t.N now (IntKind.i64.wrap (now + t.Next)) d
def begOK (t : Fu.Task) (now d : Int) : Bool := !(t.J.On || now != t.At) && mayJ t.S (begJ t now d)
def begT (t : Fu.Task) (now d : Int) : Fu.Task := { t with J := begJ t now d, P := t.Next, At := IntKind.i64.wrap (now + t.Next), N := IntKind.i64.wrap (t.N + 1), Kept := t.Kept && decide (d ≤ t.S.C) }
def begK (t : Fu.Task) (now d : Int) : Fu.Task := bif begOK t now d then begT t now d else t
def begA (t : Fu.Task) (now d : Int) (k : AV) : AV × List Blk := (.tup [.agg ([.int .i64 t.ID] ++ encSpec t.S ++ [.int .i64 t.Next, .int .i64 t.Next, .int .i64 (IntKind.i64.wrap (now + t.Next)), .int .i64 (IntKind.i64.wrap (t.N + 1))] ++ encJob (newJ t.S t.N now (IntKind.i64.wrap (now + t.Next)) d) ++ encRing t.H ++ [k]), .blit true], [])
theorem fTaskBegin (t : Fu.Task) (now d : Int) : callC c62 60 38 [.agg (encTask t), .int .i64 now, .int .i64 d] =
  .ite (t.J.On || now != t.At) (.ret (.tup [.agg (encTask t), .blit false], [])) (.ite (!mayJ t.S (begJ t now d)) (.ret (.tup [.agg (encTask t), .blit false], [])) (.ite t.Kept (.ret (begA t now d (.bool (decide (d ≤ t.S.C))))) (.ret (begA t now d (.blit false))))) := by kernel_rfl
def conTaskBegin : Con := plainCon (d3 dTask dInt dInt) fun x => .tup [.agg (encTask (begK x.1 x.2.1 x.2.2)), .bool (begOK x.1 x.2.1 x.2.2)]
theorem conTaskBegin_valid : ValidCon c62.P 38 conTaskBegin := plainCon_valid c62_good 60 (by kernel_rfl) fun ⟨t, now, d⟩ => ⟨_, fTaskBegin t now d, by
  unfold begK begOK
  cases h : (t.J.On || now != t.At) with
  | true => exact .itet rfl (.ret (.tup (.cons (.refl _) (.cons (.blit rfl) .nil))) rfl)
  | false =>
    refine .itee rfl ?_
    cases h2 : mayJ t.S (begJ t now d) with
    | false => exact .itet rfl (.ret (.tup (.cons (.refl _) (.cons (.blit rfl) .nil))) rfl)
    | true =>
      refine .itee rfl ?_
      have e : newJ t.S t.N now (IntKind.i64.wrap (now + t.Next)) d = begJ t now d := by
        unfold begJ at h2 ⊢
        simp [newJ, h2]
      simp only [Bool.not_false, Bool.and_self, cond_true]
      unfold begA begT
      rw [e]
      cases t.Kept with
      | true => exact .itet rfl (.ret (.tup (.cons (.refl _) (.cons (.blit rfl) .nil))) rfl)
      | false => exact .itee rfl (.ret (.tup (.cons (.agg (.cons (.refl _) (.cons (.refl _) (.cons (.refl _) (.cons (.refl _) (.cons (.refl _) (.cons (.refl _) (.cons (.refl _) (.cons (.refl _) (.cons (.refl _) (.cons (.refl _) (.cons (.refl _) (.cons (.refl _) (.cons (.refl _) (.cons (.refl _) (.cons (.refl _) (.cons (.refl _) (.cons (.refl _) (.cons (.refl _) (.cons (.refl _) (.cons (.refl _) (.cons (.refl _) (.cons (.blit rfl) .nil))))))))))))))))))))))) (.cons (.blit rfl) .nil))) rfl)⟩
noncomputable def c63 : Cfg := c62.addQuiet 38 conTaskBegin
theorem c63_good : GoodCfg c63 := c62_good.addQuiet conTaskBegin_valid plainCon_quiet
def runK (t : Fu.Task) : Fu.Task := bif t.J.On then (bif stepF t.J == 0 then { t with J := stepJ t.J } else { t with J := stepJ t.J, H := putRing t.H (stepF t.J == 1) }) else t
theorem fTaskRun (t : Fu.Task) : callC c63 60 65 [.agg (encTask t)] = .ite (!t.J.On) (.ret (.tup [.agg (encTask t), .lit .i64 3], [])) (.asrt (smallC t.J) (.ite (stepF t.J == 0) (.ret (.tup [.agg (encTask { t with J := stepJ t.J }), .int .i64 (stepF t.J)], []))
    (.ret (.tup [.agg (encTask { t with J := stepJ t.J, H := putRing t.H (stepF t.J == 1) }), .int .i64 (stepF t.J)], [])))) := by kernel_rfl
def conTaskRun : Con := flatCon (d1 dTask) (fun t => smallC t.J) fun t => .tup [.agg (encTask (runK t)), .int .i64 (stepF t.J)]
theorem conTaskRun_valid : ValidCon c63.P 65 conTaskRun := flatCon_valid c63_good 60 (by kernel_rfl) fun t ht => ⟨_, fTaskRun t, by
  unfold runK
  cases h : t.J.On with
  | false => exact .itet rfl (.ret (.tup (.cons (.refl _) (.cons (.lit (by simp [stepF, h])) .nil))) rfl)
  | true =>
    refine .itee rfl (.asrt ht ?_)
    cases h2 : (stepF t.J == 0) with
    | true => exact .itet rfl (.ret (.refl _) rfl)
    | false => exact .itee rfl (.ret (.refl _) rfl)⟩
noncomputable def c64 : Cfg := c63.addQuiet 65 conTaskRun
theorem c64_good : GoodCfg c64 := c63_good.addQuiet conTaskRun_valid flatCon_quiet
end Go.Fx
