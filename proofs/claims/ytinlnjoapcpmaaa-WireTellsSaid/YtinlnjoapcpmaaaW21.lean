/- The wire seat's functions of the document's answer: what bytes ask, answers. -/
import Derived.Test.YtinlnjoapcpmaaaW20
namespace Go.Fx
open Go Go.Proofs

/-! ### fuseeref16.Get -/
def strOf (l : List Int) : List UInt8 := l.map fun n => UInt8.ofNat n.toNat
def nb (b : List Int) : List Int := [] ++ dp b 1 ++ [0, 0, 0, 0, 0, 0]
def atT (n : List Int) (i : Int) (k : Int → Tree (AV × List Blk)) : Tree (AV × List Blk) := .asrt (0 ≤ i ∧ i < n.length) (.asrt (0 ≤ i ∧ i < n.length) (k (IntKind.i64.wrap (rd (.int .u8) n i))))
def prT (x y : Int) : Int := IntKind.i64.wrap (IntKind.i64.wrap (x * 256) + y)
def endR (b : List Int) (o : Fu.Op) (cs : List AV) : Tree (AV × List Blk) :=
  .asrt (small63 o) (.ite (!mayOp o || !(strOf (putO o) == strOf b)) noGet (.ret (.tup [.agg cs, .blit true], [])))
def get16 (b n : List Int) : Tree (AV × List Blk) :=
  .ite (kindOf b == 0) (atT n 0 fun c => atT n 1 fun t => atT n 2 fun mx => atT n 3 fun m => atT n 4 fun k => atT n 5 fun e =>
      endR b ⟨kindOf b, 0, ⟨c, t, mx, m, k, e⟩, 0, 0, 0, 0, 0, []⟩ [.int .i64 (kindOf b), z0, .int .i64 c, .int .i64 t, .int .i64 mx, .int .i64 m, .int .i64 k, .int .i64 e, z0, z0, z0, z0, z0, .nils])
  (.ite (kindOf b == 1) (atT n 0 fun x => atT n 1 fun y => atT n 2 fun t => atT n 3 fun mx =>
      endR b ⟨kindOf b, prT x y, ⟨0, 0, 0, 0, 0, 0⟩, t, mx, 0, 0, 0, []⟩ [.int .i64 (kindOf b), .int .i64 (prT x y), z0, z0, z0, z0, z0, z0, .int .i64 t, .int .i64 mx, z0, z0, z0, .nils])
  (.ite (kindOf b == 2) (atT n 0 fun x => atT n 1 fun y =>
      endR b ⟨kindOf b, prT x y, ⟨0, 0, 0, 0, 0, 0⟩, 0, 0, 0, 0, 0, []⟩ [.int .i64 (kindOf b), .int .i64 (prT x y), z0, z0, z0, z0, z0, z0, z0, z0, z0, z0, z0, .nils])
  (.ite (kindOf b == 3) (atT n 0 fun wi => atT n 1 fun c => atT n 2 fun x => atT n 3 fun y =>
      endR b ⟨kindOf b, 0, ⟨0, 0, 0, 0, 0, 0⟩, 0, 0, wi, c, prT x y, []⟩ [.int .i64 (kindOf b), z0, z0, z0, z0, z0, z0, z0, z0, z0, .int .i64 wi, .int .i64 c, .int .i64 (prT x y), .nils])
  (.ite (kindOf b == 4) (.asrt (5 = 5 ∧ T16 (b, ([], kindOf b), 2) = T16 (b, ([], kindOf b), 2))
      (.asrt (0 ≤ (2 : Int) ∧ (b.length : Int) < maxI64 ∧ okX nx11 (fun _ _ => (none : Option Unit)) ok11 ([], kindOf b) (b.drop (2 : Int).toNat))
        (let ds := (foldX nx11 ([], kindOf b) (b.drop (2 : Int).toNat)).1
         let k := (foldX nx11 ([], kindOf b) (b.drop (2 : Int).toNat)).2
         endR b ⟨k, 0, ⟨0, 0, 0, 0, 0, 0⟩, 0, 0, 0, 0, 0, ds⟩ (opK k (.view (.int .i64) ds)))))
    (endR b ⟨kindOf b, 0, ⟨0, 0, 0, 0, 0, 0⟩, 0, 0, 0, 0, 0, []⟩ (kz b))))))
def getR16 (b : List Int) : Tree (AV × List Blk) :=
  .ite ((b.length : Int) == 0 || decide ((b.length : Int) > 20)) noGet (.asrt (0 ≤ (0 : Int) ∧ (0 : Int) < b.length) (.asrt (0 ≤ (1 : Int) ∧ (1 : Int) ≤ b.length ∧ (b.length : Int) ≤ b.length)
    (.asrt (([] ++ dp b 1).length * 1 ≤ 140737488355328) (.asrt (([] ++ dp b 1 ++ [0, 0, 0, 0, 0, 0]).length * 1 ≤ 140737488355328) (get16 b (nb b))))))
theorem f16 (b : List Int) : frozen (callC w40 100 16) [.view (.int .u8) b] = getR16 b := by kernel_rfl
theorem strOf_inj : ∀ {a b : List Int}, bytesOK a → bytesOK b → strOf a = strOf b → a = b
  | [], [], _, _, _ => rfl
  | [], _ :: _, _, _, h => by simp [strOf] at h
  | _ :: _, [], _, _, h => by simp [strOf] at h
  | x :: a, y :: b, ha, hb, h => by
    obtain ⟨hx, ha⟩ := ha.cons
    obtain ⟨hy, hb⟩ := hb.cons
    simp only [strOf, List.map_cons, List.cons.injEq] at h
    have h2 := strOf_inj ha hb h.2
    have h1 : x.toNat = y.toNat := by
      have := congrArg UInt8.toNat h.1
      rw [UInt8.toNat_ofNat', UInt8.toNat_ofNat'] at this
      omega
    rw [h2, show x = y by omega]
def nn (b : List Int) (i : Nat) : Int := (b.drop 1 ++ [0, 0, 0, 0, 0, 0]).getD i 0
theorem nb_eq (b : List Int) : nb b = b.drop 1 ++ [0, 0, 0, 0, 0, 0] := by unfold nb; rw [dp_eq]; rfl
theorem nn_ok {b : List Int} (hb : bytesOK b) (i : Nat) : 0 ≤ nn b i ∧ nn b i ≤ 255 := by
  unfold nn
  rw [List.getD_eq_getElem?_getD]
  cases h : (b.drop 1 ++ [0, 0, 0, 0, 0, 0])[i]? with
  | none => simp
  | some x =>
    have := List.mem_of_getElem? h
    rcases List.mem_append.1 this with h1 | h1
    · exact hb x (List.mem_of_mem_drop h1)
    · simp at h1; subst h1; simp
theorem atT_rez {b : List Int} (hb : bytesOK b) {i : Nat} (hi : i < 6) {k : Int → Tree (AV × List Blk)} {r : AV × List Blk} (h : Rez (k (nn b i)) r) : Rez (atT (nb b) i k) r := by
  have hl : (i : Int) < ((nb b).length : Int) := by rw [nb_eq]; simp; omega
  have he : rd (.int .u8) (nb b) i = nn b i := by rw [nb_eq]; rfl
  refine .asrt ⟨by omega, hl⟩ (.asrt ⟨by omega, hl⟩ ?_)
  have := nn_ok hb i
  rw [he, wrap_fits (by omega) (by omega)]
  exact h
theorem prT_eq {x y : Int} (hx : 0 ≤ x ∧ x ≤ 255) (hy : 0 ≤ y ∧ y ≤ 255) : prT x y = x * 256 + y := by
  unfold prT
  rw [wrap_fits (n := x * 256) (by omega) (by omega), wrap_fits (by omega) (by omega)]
def flatR (b : List Int) : AV × List Blk := (.tup [opAV (getO b), .bool (asks b)], [])
theorem noGet_rez {b : List Int} (h : asks b = false) : Rez noGet (flatR b) := by
  unfold flatR getO
  rw [h]
  exact .ret (.tup (.cons zeroA (.cons (.blit rfl) .nil))) rfl
theorem endR_rez {b : List Int} (hb : bytesOK b) (hn : b ≠ []) (hl : b.length ≤ 20) {o : Fu.Op} {cs : List AV} {d : AV} (ho : o = cand b) (hc : AsArgs cs (opCellsD o d)) (hd : AsArg d (.view (.int .i64) o.D)) : Rez (endR b o cs) (flatR b) := by
  subst ho
  have h1 := cand_D b
  refine .asrt (by unfold small63; omega) ?_
  cases ha : asks b with
  | true =>
    obtain ⟨h2, h3⟩ := asks_iff ha
    refine .itee (by rw [h2, putO_yes h2, h3]; simp) (.ret (.tup (.cons ?_ (.cons (.blit ha.symm) .nil))) rfl)
    rw [getO_yes ha]
    exact (AsArg.agg hc).trans (opA _ hd)
  | false =>
    refine .itet ?_ (noGet_rez ha)
    cases hm : mayOp (cand b) with
    | false => rfl
    | true =>
      rw [Bool.not_true, Bool.false_or, putO_yes hm]
      simp only [Bool.not_eq_true', beq_eq_false_iff_ne, ne_eq]
      intro e
      have := strOf_inj (putB_ok _) hb e
      unfold asks at ha
      rw [hm, decide_eq_true this] at ha
      cases b with
      | nil => exact hn rfl
      | cons x l => simp at ha
theorem zAz : AsArg z0 (.int .i64 0) := zAs
theorem get16_rez {x : Int} {l : List Int} (hb : bytesOK (x :: l)) (hl : (x :: l).length ≤ 20) : Rez (get16 (x :: l) (nb (x :: l))) (flatR (x :: l)) := by
  have hx := hb.cons.1
  have hk : kindOf (x :: l) = x := kindOf_cons hx
  have hn : (x :: l : List Int) ≠ [] := by simp
  have nilA : AsArg AV.nils (.view (.int .i64) []) := .view rfl
  unfold get16
  rw [hk]
  by_cases h0 : x = 0
  · subst h0
    refine .itet rfl (atT_rez hb (i := 0) (by omega) (atT_rez hb (i := 1) (by omega) (atT_rez hb (i := 2) (by omega) (atT_rez hb (i := 3) (by omega) (atT_rez hb (i := 4) (by omega) (atT_rez hb (i := 5) (by omega) ?_))))))
    refine endR_rez hb hn hl (d := .nils) rfl ?_ nilA
    exact .cons (.refl _) (.cons zAz (.cons (.refl _) (.cons (.refl _) (.cons (.refl _) (.cons (.refl _) (.cons (.refl _) (.cons (.refl _) (.cons zAz (.cons zAz (.cons zAz (.cons zAz (.cons zAz (.cons (.refl _) .nil)))))))))))))
  refine .itee (by simp [h0]) ?_
  by_cases h1 : x = 1
  · subst h1
    refine .itet rfl (atT_rez hb (i := 0) (by omega) (atT_rez hb (i := 1) (by omega) (atT_rez hb (i := 2) (by omega) (atT_rez hb (i := 3) (by omega) ?_))))
    rw [prT_eq (nn_ok hb 0) (nn_ok hb 1)]
    refine endR_rez hb hn hl (d := .nils) rfl ?_ nilA
    exact .cons (.refl _) (.cons (.refl _) (.cons zAz (.cons zAz (.cons zAz (.cons zAz (.cons zAz (.cons zAz (.cons (.refl _) (.cons (.refl _) (.cons zAz (.cons zAz (.cons zAz (.cons (.refl _) .nil)))))))))))))
  refine .itee (by simp [h1]) ?_
  by_cases h2 : x = 2
  · subst h2
    refine .itet rfl (atT_rez hb (i := 0) (by omega) (atT_rez hb (i := 1) (by omega) ?_))
    rw [prT_eq (nn_ok hb 0) (nn_ok hb 1)]
    refine endR_rez hb hn hl (d := .nils) rfl ?_ nilA
    exact .cons (.refl _) (.cons (.refl _) (.cons zAz (.cons zAz (.cons zAz (.cons zAz (.cons zAz (.cons zAz (.cons zAz (.cons zAz (.cons zAz (.cons zAz (.cons zAz (.cons (.refl _) .nil)))))))))))))
  refine .itee (by simp [h2]) ?_
  by_cases h3 : x = 3
  · subst h3
    refine .itet rfl (atT_rez hb (i := 0) (by omega) (atT_rez hb (i := 1) (by omega) (atT_rez hb (i := 2) (by omega) (atT_rez hb (i := 3) (by omega) ?_))))
    rw [prT_eq (nn_ok hb 2) (nn_ok hb 3)]
    refine endR_rez hb hn hl (d := .nils) rfl ?_ nilA
    exact .cons (.refl _) (.cons zAz (.cons zAz (.cons zAz (.cons zAz (.cons zAz (.cons zAz (.cons zAz (.cons zAz (.cons zAz (.cons (.refl _) (.cons (.refl _) (.cons (.refl _) (.cons (.refl _) .nil)))))))))))))
  refine .itee (by simp [h3]) ?_
  by_cases h4 : x = 4
  · subst h4
    refine .itet rfl (.asrt ⟨rfl, rfl⟩ (.asrt ⟨by omega, by unfold maxI64; omega, ok11_all _ _ _ (by simp at hl ⊢; omega)⟩ ?_))
    have hd : bytesOK ((4 :: l).drop (2 : Int).toNat) := fun y hy => hb y (List.mem_of_mem_drop hy)
    rw [fold11 4 _ [] hd]
    simp only [List.nil_append]
    refine endR_rez hb hn hl (d := .view (.int .i64) ((4 :: l).drop 2)) rfl ?_ (.refl _)
    exact .cons (.refl _) (.cons zAz (.cons zAz (.cons zAz (.cons zAz (.cons zAz (.cons zAz (.cons zAz (.cons zAz (.cons zAz (.cons zAz (.cons zAz (.cons zAz (.cons (.refl _) .nil)))))))))))))
  refine .itee (by simp [h4]) ?_
  have ec : (⟨x, 0, ⟨0, 0, 0, 0, 0, 0⟩, 0, 0, 0, 0, 0, []⟩ : Fu.Op) = cand (x :: l) := by simp [cand, h0, h1, h2, h3, h4]
  refine endR_rez hb hn hl (d := .nils) ec ?_ nilA
  unfold kz
  rw [hk]
  exact .cons (.refl _) (.cons zAz (.cons zAz (.cons zAz (.cons zAz (.cons zAz (.cons zAz (.cons zAz (.cons zAz (.cons zAz (.cons zAz (.cons zAz (.cons zAz (.cons (.refl _) .nil)))))))))))))
theorem getR16_rez {b : List Int} (hb : bytesOK b) : Rez (getR16 b) (flatR b) := by
  unfold getR16
  cases b with
  | nil => exact .itet rfl (noGet_rez rfl)
  | cons x l =>
    by_cases hl : (x :: l).length ≤ 20
    · refine .itee ?_ (.asrt (by simp only [List.length_cons]; omega) (.asrt (by simp only [List.length_cons]; omega) (.asrt ?_ (.asrt ?_ (get16_rez hb hl)))))
      · simp only [List.length_cons] at hl ⊢
        simp only [Bool.or_eq_false_iff, beq_eq_false_iff_ne, ne_eq, decide_eq_false_iff_not]
        omega
      · rw [dp1]; simp only [List.length_cons] at hl; simp only [List.nil_append]; omega
      · rw [dp1]; simp only [List.length_cons] at hl; simp; omega
    · refine .itet ?_ (noGet_rez ?_)
      · simp only [List.length_cons] at hl ⊢
        simp only [Bool.or_eq_true, beq_iff_eq, decide_eq_true_eq]
        omega
      · cases ha : asks (x :: l) with
        | false => rfl
        | true =>
          exfalso
          obtain ⟨h1, h2⟩ := asks_iff ha
          have := (put_small h1).2
          rw [h2] at this
          omega
def dBytes : Dc (List Int) := dView (.int .u8)
def con16 : Con := flatCon (d1 dBytes) (fun b => bytesOK b) fun b => .tup [opAV (getO b), .bool (asks b)]
theorem con16_valid : ValidCon w40.P 16 con16 := frozenCon_valid w40_good 100 (by kernel_rfl) fun b h => ⟨_, f16 b, getR16_rez h⟩
noncomputable def w41 : Cfg := w40.addQuiet 16 con16
theorem w41_good : GoodCfg w41 := w40_good.addQuiet con16_valid flatCon_quiet

end Go.Fx
