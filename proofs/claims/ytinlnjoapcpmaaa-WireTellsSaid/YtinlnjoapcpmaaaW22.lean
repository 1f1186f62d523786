/- The wire seat's functions of the document's answer: answers. -/
import Derived.Test.YtinlnjoapcpmaaaW21
namespace Go.Fx
open Go Go.Proofs

/-! ### fuseeref16.Answer -/
def q8 (c k : Int) : Int := IntKind.u8.wrap ((IntKind.i64.wrap (c.tdiv k)).tmod 256)
def badA (a c : Int) : Bool := decide (a < 0) || (decide (a > 8) || (decide (c < 0) || decide (c > 1099511627776)))
def answerT (a c : Int) : Tree (AV × List Blk) := .ite (badA a c) noPut
  (putsT isPut true [IntKind.u8.wrap a] [q8 c 1099511627776, q8 c 4294967296, q8 c 16777216, q8 c 65536, q8 c 256, q8 c 1])
theorem f18 (a c : Int) : callC w41 100 18 [.agg [.int .i64 a, .int .i64 c]] = answerT a c := by kernel_rfl
theorem badA_eq (a c : Int) : badA a c = !mayReply a c := by
  unfold badA mayReply
  rw [Bool.eq_iff_iff]
  simp only [Bool.or_eq_true, decide_eq_true_eq, Bool.not_eq_true', Bool.and_eq_false_iff, decide_eq_false_iff_not]
  omega
theorem q8_eq {c : Int} (h0 : 0 ≤ c) (h1 : c ≤ 1099511627776) {k : Int} (hk : 0 < k) : q8 c k = c / k % 256 := by
  unfold q8
  have e1 : c.tdiv k = c / k := Int.tdiv_eq_ediv_of_nonneg h0
  have h2 : 0 ≤ c / k := Int.ediv_nonneg h0 (by omega)
  have h3 : c / k ≤ c := Int.ediv_le_self _ h0
  have e2 : (c / k).tmod 256 = c / k % 256 := Int.tmod_eq_emod_of_nonneg h2
  rw [e1, wrap_fits (by omega) (by omega), e2, wrap_u8]
  omega
theorem con18_valid : ValidCon w41.P 18 con17 := by
  refine con_of (n := 100) w41_good (by kernel_rfl) fun args r h => ?_
  unfold con17 at h
  split at h
  · split at h
    · rename_i a b ha hb
      refine ⟨_, r.1, .cons (.agg (.cons (.i ha) (.cons (.i hb) .nil))) .nil, .refl _, .of_eq (f18 a b) ?_⟩
      unfold answerT
      cases hm : mayReply a b with
      | false =>
        rw [hm] at h
        exact (Tree.out_ite_true (by rw [badA_eq, hm]; rfl)).2 ((Tree.out_ite_true rfl).1 h)
      | true =>
        rw [hm] at h
        refine (Tree.out_ite_false (by rw [badA_eq, hm]; rfl)).2 ((putsT_out _ _ _ (by simp)).2 ?_)
        have hm' := hm
        unfold mayReply at hm'
        simp only [Bool.and_eq_true, decide_eq_true_eq] at hm'
        have e : [IntKind.u8.wrap a] ++ [q8 b 1099511627776, q8 b 4294967296, q8 b 16777216, q8 b 65536, q8 b 256, q8 b 1] = answerL a b := by
          unfold answerL
          rw [q8_eq hm'.2.2.1 hm'.2.2.2 (by omega), q8_eq hm'.2.2.1 hm'.2.2.2 (by omega), q8_eq hm'.2.2.1 hm'.2.2.2 (by omega), q8_eq hm'.2.2.1 hm'.2.2.2 (by omega), q8_eq hm'.2.2.1 hm'.2.2.2 (by omega), q8_eq hm'.2.2.1 hm'.2.2.2 (by omega), byteOf40, byteOf32, byteOf24, byteOf16, byteOf8, byteOf0]
          simp
        rw [e]
        exact (Tree.out_ite_false rfl).1 h
    · exact h.elim
  · exact h.elim
noncomputable def w42 : Cfg := w41.addQuiet 18 con17f
theorem w42_good : GoodCfg w42 := w41_good.addQuiet (con17f_valid con18_valid) con17f_quiet

/-! ### fuseeref16.Answered -/
def atA (b : List Int) (i : Int) (t : Tree (AV × List Blk)) : Tree (AV × List Blk) := .asrt (0 ≤ i ∧ i < b.length) t
def stA (m x : Int) : Int := IntKind.i64.wrap (IntKind.i64.wrap (m * 256) + IntKind.i64.wrap x)
def accA (b : List Int) : Int := stA (stA (stA (stA (stA (stA 0 (rd (.int .u8) b 1)) (rd (.int .u8) b 2)) (rd (.int .u8) b 3)) (rd (.int .u8) b 4)) (rd (.int .u8) b 5)) (rd (.int .u8) b 6)
def answeredT (b : List Int) : Tree (AV × List Blk) := .ite ((b.length : Int) != 7) noReply
  (atA b 0 (atA b 1 (atA b 2 (atA b 3 (atA b 4 (atA b 5 (atA b 6
    (.ite (!mayReply (errOf b) (accA b)) noReply (.ret (.tup [.agg [.int .i64 (errOf b), .int .i64 (accA b)], .blit true], []))))))))))
theorem f20 (b : List Int) : callC w42 100 20 [.view (.int .u8) b] = answeredT b := by kernel_rfl
theorem stA_eq {m x : Int} (h0 : 0 ≤ m) (h1 : m < 4503599627370496) (hx : 0 ≤ x ∧ x ≤ 255) : stA m x = m * 256 + x := by
  unfold stA
  rw [wrap_fits (n := m * 256) (by omega) (by omega), wrap_fits (n := x) (by omega) (by omega), wrap_fits (by omega) (by omega)]
def con20 : Con := flatCon (d1 dBytes) (fun b => bytesOK b) fun b => .tup [.agg [.int .i64 (aE b), .int .i64 (aN b)], .bool (isA b)]
theorem noReply_rez {b : List Int} (h : isA b = false) : Rez noReply (.tup [.agg [.int .i64 (aE b), .int .i64 (aN b)], .bool (isA b)], []) :=
  .ret (.tup (.cons (.agg (.cons (.lit (by simp [aE, h])) (.cons (.lit (by simp [aN, h])) .nil))) (.cons (.blit h.symm) .nil))) rfl
theorem answeredT_rez {b : List Int} (hb : bytesOK b) : Rez (answeredT b) (.tup [.agg [.int .i64 (aE b), .int .i64 (aN b)], .bool (isA b)], []) := by
  unfold answeredT
  by_cases hl : b.length = 7
  · refine .itee (by simp [hl]) ?_
    unfold atA
    refine .asrt (by omega) (.asrt (by omega) (.asrt (by omega) (.asrt (by omega) (.asrt (by omega) (.asrt (by omega) (.asrt (by omega) ?_))))))
    have e : accA b = getL 0 (b.drop 1) := by
      match b, hb, hl with
      | [e, a, b, c, d, f, g], hb, _ =>
        obtain ⟨he, hb⟩ := hb.cons; obtain ⟨ha, hb⟩ := hb.cons; obtain ⟨hb', hb⟩ := hb.cons; obtain ⟨hc, hb⟩ := hb.cons; obtain ⟨hd, hb⟩ := hb.cons; obtain ⟨hf, hb⟩ := hb.cons; obtain ⟨hg, _⟩ := hb.cons
        have e4 : getL 0 (List.drop 1 [e, a, b, c, d, f, g]) = ((((a * 256 + b) * 256 + c) * 256 + d) * 256 + f) * 256 + g := getL6 ha hb' hc hd hf hg
        rw [e4]
        show stA (stA (stA (stA (stA (stA 0 a) b) c) d) f) g = _
        rw [stA_eq (by omega) (by omega) ha, stA_eq (by omega) (by omega) hb', stA_eq (by omega) (by omega) hc, stA_eq (by omega) (by omega) hd, stA_eq (by omega) (by omega) hf, stA_eq (by omega) (by omega) hg]
        omega
    rw [e]
    cases hm : mayReply (errOf b) (getL 0 (b.drop 1)) with
    | false => exact .itet rfl (noReply_rez (by simp only [isA, hm, Bool.and_false]))
    | true =>
      have hi : isA b = true := by unfold isA; rw [hm, decide_eq_true hl]; rfl
      refine .itee rfl (.ret (.tup (.cons (.eq ?_) (.cons (.blit hi.symm) .nil))) rfl)
      unfold aE aN
      rw [if_pos hi, if_pos hi]
  · exact .itet (by simpa using fun e => hl (by exact_mod_cast e)) (noReply_rez (by simp [isA, hl]))
theorem con20_valid : ValidCon w42.P 20 con20 := flatCon_valid w42_good 100 (by kernel_rfl) fun b h => ⟨_, f20 b, answeredT_rez h⟩
noncomputable def w43 : Cfg := (w42.addQuiet 20 con20).addQuiet 15 con9f
theorem w43_good : GoodCfg w43 := (w42_good.addQuiet con20_valid flatCon_quiet).addQuiet (con9f_valid con15_valid) con9f_quiet

end Go.Fx
