import Derived.Test.YtpamljjiglncmaaGreatRN
namespace Go.Fx
open Go Go.Proofs
theorem oAim : Opens Tryz.prog 61 fun zs => ∃ a : Fu.Aim, zs = encAim a :=
  (Opens.struct Tryz.underlying61 (.cons oInt (by kernel_rfl) (.cons oSpec (by kernel_rfl) (.cons oInt (by kernel_rfl) (.nil _)))) (by kernel_rfl)).mono fun zs h => by
    obtain ⟨_, _, rfl, ⟨a, rfl, _⟩, _, _, rfl, ⟨s, rfl⟩, _, _, rfl, ⟨b, rfl, _⟩, rfl⟩ := h
    exact ⟨⟨a, s, b⟩, rfl⟩
theorem oAims : Opens Tryz.prog 26 fun zs => ∃ xs : List Fu.Aim, zs = [.view .aim xs] ∧ (xs.length : Int) * 64 ≤ 140737488355328 :=
  (Opens.slice .aim (ok := fun _ => True) Tryz.underlying26 oAim (fun zs ⟨n, h⟩ => ⟨n, h, trivial⟩) (by kernel_rfl) (by decide)).mono fun zs ⟨xs, h1, h2, _⟩ => ⟨xs, h1, by
    have e : Tryz.prog.bytesOf 61 = 64 := by kernel_rfl
    rw [e] at h2
    unfold reachBytes at h2
    omega⟩
theorem oAsk : Opens Tryz.prog 28 fun zs => ∃ r : Fu.Ask, zs = encR r ∧ (r.L.length : Int) * 64 ≤ 140737488355328 :=
  (Opens.struct Tryz.underlying28 (.cons oBool (by kernel_rfl) (.cons oInt (by kernel_rfl) (.cons oInt (by kernel_rfl) (.cons oInt (by kernel_rfl) (.cons oAims (by kernel_rfl) (.nil _)))))) (by kernel_rfl)).mono fun zs h => by
    obtain ⟨_, _, rfl, ⟨o, rfl⟩, _, _, rfl, ⟨a, rfl, _⟩, _, _, rfl, ⟨b, rfl, _⟩, _, _, rfl, ⟨c, rfl, _⟩, _, _, rfl, ⟨L, rfl, hL⟩, rfl⟩ := h
    exact ⟨⟨o, a, b, c, L⟩, rfl, hL⟩
theorem oServ : Opens Tryz.prog 30 fun zs => ∃ s : Fu.Serv, zs = encS s ∧ smallS s :=
  (Opens.struct Tryz.underlying30 (.cons oWorld (by kernel_rfl) (.cons oAsk (by kernel_rfl) (.cons oInt (by kernel_rfl) (.cons oInt (by kernel_rfl) (.nil _))))) (by kernel_rfl)).mono fun zs h => by
    obtain ⟨_, _, rfl, ⟨w, rfl, hw, _⟩, _, _, rfl, ⟨r, rfl, hr⟩, _, _, rfl, ⟨a, rfl, _⟩, _, _, rfl, ⟨b, rfl, _⟩, rfl⟩ := h
    exact ⟨⟨w, r, a, b⟩, by simp [encS], hw, hr⟩
end Go.Fx
namespace Go.Fx
open Go Go.Proofs
def nearE (s : Fu.Serv) : Bool := nearW s.W && decide ((s.R.L.length : Int) ≤ 10)
theorem fNear20 (s : Fu.Serv) : callC c208 60 11 [.agg (encS s)] = .asrt (smallW s.W) (.ite (nearW s.W) (.ret (.bool (decide ((s.R.L.length : Int) ≤ 10)), [])) (.ret (.blit false, []))) := by kernel_rfl
def conNear20 : Con := flatCon (d1 dServ) smallS fun s => .bool (nearE s)
theorem near20_rez {s : Fu.Serv} (h : smallS s) : ∃ t, callC c208 60 11 [.agg (encS s)] = t ∧ Rez t (.bool (nearE s), []) := ⟨_, fNear20 s, by
  refine .asrt h.1 ?_
  unfold nearE
  cases nearW s.W with
  | true => exact .itet rfl (.ret (.refl _) rfl)
  | false => exact .itee rfl (.ret (.blit rfl) rfl)⟩
theorem conNear20_valid : ValidCon c208.P 11 conNear20 := flatCon_valid c208_good 60 (by kernel_rfl) fun s h => near20_rez h
noncomputable def c209 : Cfg := c208.addQuiet 11 conNear20
theorem c209_good : GoodCfg c209 := c208_good.addQuiet conNear20_valid flatCon_quiet
def newS : Fu.Serv := ⟨⟨0, [], [], -1⟩, ⟨false, 0, 0, -1, []⟩, 0, 0⟩
theorem fNew20 : callC c209 60 24 [] = .ret (.agg [.lit .i64 0, .nils, .nils, .lit .i64 (-1), .blit false, .lit .i64 0, .lit .i64 0, .lit .i64 (-1), .nils, .lit .i64 0, .lit .i64 0], []) := by kernel_rfl
def conNew20 : Con := plainCon Ds.none fun _ => .agg (encS newS)
theorem conNew20_valid : ValidCon c209.P 24 conNew20 := plainCon_valid c209_good 60 (by kernel_rfl) fun _ => ⟨_, fNew20, .ret (.agg (.cons (.lit rfl) (.cons (.view rfl) (.cons (.view rfl) (.cons (.lit rfl) (.cons (.blit rfl) (.cons (.lit rfl) (.cons (.lit rfl) (.cons (.lit rfl) (.cons (.view rfl) (.cons (.lit rfl) (.cons (.lit rfl) .nil)))))))))))) rfl⟩
noncomputable def c210 : Cfg := c209.addQuiet 24 conNew20
theorem c210_good : GoodCfg c210 := c209_good.addQuiet conNew20_valid plainCon_quiet
def oneS : Fu.Spec := ⟨2, 10, 20, 1, 2, 3⟩
theorem fOne05 : callC c210 60 25 [] = .ret (.agg [.lit .i64 2, .lit .i64 10, .lit .i64 20, .lit .i64 1, .lit .i64 2, .lit .i64 3], []) := by kernel_rfl
def conOne05 : Con := plainCon Ds.none fun _ => .agg (encSpec oneS)
theorem conOne05_valid : ValidCon c210.P 25 conOne05 := plainCon_valid c210_good 60 (by kernel_rfl) fun _ => ⟨_, fOne05, .ret (.agg (.cons (.lit rfl) (.cons (.lit rfl) (.cons (.lit rfl) (.cons (.lit rfl) (.cons (.lit rfl) (.cons (.lit rfl) .nil))))))) rfl⟩
noncomputable def c211 : Cfg := c210.addQuiet 25 conOne05
theorem c211_good : GoodCfg c211 := c210_good.addQuiet conOne05_valid plainCon_quiet
def j20 : (Fu.Serv × Int) × Int := joinR newS oneS
def m20 : Fu.Serv × Bool := moveV j20.1.1
def up20 : Tree (AV × List Blk) := .asrt (smallS newS) (.asrt (smallS j20.1.1) (.asrt (smallS j20.1.1) (.asrt ((j20.2 == 0) = true → (j20.1.2 == 0) = true → j20.1.1.R.On = true → m20.2 = true → (!m20.1.R.On) = true → ((m20.1.W.T.length : Int) == 1) = true → 0 ≤ (0 : Int) ∧ (0 : Int) < m20.1.W.T.length)
  (.asrt ((j20.2 == 0) = true → (j20.1.2 == 0) = true → j20.1.1.R.On = true → m20.2 = true → (!m20.1.R.On) = true → ((m20.1.W.T.length : Int) == 1) = true → ((rd .task m20.1.W.T 0).P == 10) = true → ((joinR j20.1.1 oneS).2 == 4) = true → smallS m20.1) (.ret (.bool true, []))))))
theorem fAwake20 : callC c211 60 10 [] = up20 := by kernel_rfl
theorem conAwake20_valid : ValidCon c211.P 10 conTrue := conTrue_valid c211_good 60 (by kernel_rfl) ⟨_, fAwake20, by
  have h1 : smallS j20.1.1 := ⟨⟨by decide +kernel, by decide +kernel⟩, by decide +kernel⟩
  have h2 : smallS m20.1 := ⟨⟨by decide +kernel, by decide +kernel⟩, by decide +kernel⟩
  exact .asrt ⟨⟨by decide, by decide⟩, by decide⟩ (.asrt h1 (.asrt h1 (.asrt (fun _ _ _ _ _ _ => by decide +kernel) (.asrt (fun _ _ _ _ _ _ _ _ => h2) (.ret (.boolLit rfl) rfl)))))⟩
noncomputable def c212 : Cfg := c211.addQuiet 10 conTrue
theorem c212_good : GoodCfg c212 := c211_good.addQuiet conAwake20_valid conTrue_quiet
end Go.Fx
