/- The wire seat's laws that do without the document's answer. -/
import Derived.Test.YtinlnjoapcpmaaaW15
namespace Go.Fx
open Go Go.Proofs

theorem putO_yes {o : Fu.Op} (h : mayOp o = true) : putO o = putB o := by simp [putO, h]
theorem putO_no {o : Fu.Op} (h : mayOp o = false) : putO o = [] := by simp [putO, h]
theorem putO_ok (o : Fu.Op) : bytesOK (putO o) := by
  cases h : mayOp o with
  | true => rw [putO_yes h]; exact putB_ok o
  | false => rw [putO_no h]; intro x hx; simp at hx
theorem put_small {o : Fu.Op} (h : mayOp o = true) : 0 < ((putB o).length : Int) ∧ ((putB o).length : Int) ≤ 7 := by
  have hl := putB_len o
  have h4 := may_len h
  rcases may_kind h with hk | hk | hk | hk | hk <;> simp only [hk] at hl <;> simp at hl <;> omega
theorem putO_small (o : Fu.Op) : ((putO o).length : Int) ≤ 7 := by
  cases h : mayOp o with
  | true => rw [putO_yes h]; exact (put_small h).2
  | false => rw [putO_no h]; simp

/-! ### WireLong -/
def longN (o : Fu.Op) : Int := bif o.Kind == 0 then 7 else bif o.Kind == 2 then 3 else bif o.Kind == 4 then IntKind.i64.wrap (2 + o.D.length) else 5
theorem f5 (o : Fu.Op) : callC w33 100 5 [opAV o] = .asrt ((o.D.length : Int) < 9223372036854775807) (.ite (!mayOp o) (.ret (.bool (((putO o).length : Int) == 0), [])) (.ret (.bool (((putO o).length : Int) == longN o), []))) := by kernel_rfl
def good1 (args : List AV) : Prop := ∃ o : Fu.Op, args = [opAV o] ∧ (o.D.length : Int) < 17592186044416
theorem con5_valid : ValidCon w33.P 5 (lawCon good1) := lawCon_of (n := 100) w33_good (by kernel_rfl) fun args ⟨o, h1, h2⟩ => by
  subst h1
  refine ⟨_, f5 o, .asrt (by omega) (.ite (fun hm => .of ?_) fun hm => .of ?_)⟩
  · rw [putO_no (by simpa using hm)]; rfl
  have hm : mayOp o = true := by simpa using hm
  have h4 := may_len hm
  rw [putO_yes hm, beq_iff_eq, putB_len]
  rcases may_kind hm with hk | hk | hk | hk | hk <;> simp only [longN, hk] <;> try rfl
  show 2 + (o.D.length : Int) = IntKind.i64.wrap (2 + (o.D.length : Int))
  exact (wrap_fits (by omega) (by omega)).symm

/-! ### WireOne -/
theorem f4 (o p : Fu.Op) : callC w33 100 4 [opAV o, opAV p] =
    .asrt ((o.D.length : Int) < 9223372036854775807) (.asrt ((p.D.length : Int) < 9223372036854775807) (.ite (!mayOp o || !mayOp p)
      (.ret (.bool (bif mayOp o then mayOp p || ((putO p).length : Int) == 0 else ((putO o).length : Int) == 0 && (mayOp p || ((putO p).length : Int) == 0)), []))
        (.asrt ((((putO o).length : Int) == 0) = false → (((putO p).length : Int) == 0) = false → 0 ≤ (0 : Int) ∧ 0 < ((putO o).length : Int))
          (.ite (((putO o).length : Int) == 0 || (((putO p).length : Int) == 0 || (IntKind.i64.wrap (rd (.int .u8) (putO o) 0) != o.Kind || o.Kind == p.Kind && (o.Kind != 4 && ((putO o).length : Int) != (putO p).length)))) noT
            (.asrt (((putO o).length : Int) < 9223372036854775807) (.asrt ((o.D.length : Int) < 9223372036854775807) (.ret (.bool (decide (putO o = putO p) == decide (o = p)), [])))))))) := by kernel_rfl
def good2 (args : List AV) : Prop := ∃ o p : Fu.Op, args = [opAV o, opAV p] ∧ (o.D.length : Int) < 17592186044416 ∧ (p.D.length : Int) < 17592186044416
theorem kind_of_put {o : Fu.Op} (hm : mayOp o = true) : IntKind.i64.wrap (rd (.int .u8) (putB o) 0) = o.Kind := by
  have : rd (.int .u8) (putB o) 0 = IntKind.u8.wrap o.Kind := by simp [rd, putB]
  rw [this]
  rcases may_kind hm with hk | hk | hk | hk | hk <;> rw [hk] <;> decide
theorem con4_valid : ValidCon w33.P 4 (lawCon good2) := lawCon_of (n := 100) w33_good (by kernel_rfl) fun args ⟨o, p, h1, h2, h3⟩ => by
  subst h1
  refine ⟨_, f4 o p, .asrt (by omega) (.asrt (by omega) (.ite (fun hm => .of ?_) fun hm => ?_))⟩
  · cases h5 : mayOp o <;> cases h6 : mayOp p <;> simp only [h5, h6, Bool.not_true, Bool.or_self, Bool.false_eq_true] at hm <;> simp [putO_no, h5, h6]
  simp only [Bool.or_eq_false_iff, Bool.not_eq_false'] at hm
  obtain ⟨hm, hp⟩ := hm
  rw [putO_yes hm, putO_yes hp]
  have hl := putB_len o
  have hl2 := putB_len p
  have hz := put_small hm
  have hz2 := put_small hp
  refine .asrt (fun _ _ => ⟨by omega, hz.1⟩) (.ite (fun hb => ?_) fun _ => .asrt (by omega) (.asrt (by omega) (.of ?_)))
  · exfalso
    simp only [Bool.or_eq_true, beq_iff_eq, bne_iff_ne, ne_eq, Bool.and_eq_true] at hb
    rcases hb with hb | hb | hb | ⟨hb, hc, hd⟩
    · omega
    · omega
    · exact hb (kind_of_put hm)
    · rw [← hb] at hl2
      refine hd ?_
      rw [hl, hl2]
      rcases may_kind hm with hk | hk | hk | hk | hk <;> simp [hk]
      exact absurd hk hc
  · rw [beq_iff_eq, decide_eq_decide]
    constructor
    · intro e
      rw [← cand_put hm, ← cand_put hp, e]
    · intro e
      rw [e]

/-! ### WireAnswers -/
theorem answer_back {a c : Int} (h : mayReply a c = true) : isA (answerL a c) = true ∧ aE (answerL a c) = a ∧ aN (answerL a c) = c := by
  unfold mayReply at h
  simp only [Bool.and_eq_true, decide_eq_true_eq] at h
  obtain ⟨h1, h2, h3, h4⟩ := h
  have e1 : errOf (answerL a c) = a := by
    have : errOf (answerL a c) = IntKind.i64.wrap (IntKind.u8.wrap a) := rfl
    rw [this, wrap8_id (by omega), wrap_fits (by omega) (by omega)]
  have e2 : getL 0 ((answerL a c).drop 1) = c := by
    show getL 0 [byteOf c 40, byteOf c 32, byteOf c 24, byteOf c 16, byteOf c 8, byteOf c 0] = c
    rw [getL6 (byteOf_ok _ _) (byteOf_ok _ _) (byteOf_ok _ _) (byteOf_ok _ _) (byteOf_ok _ _) (byteOf_ok _ _), byteOf40, byteOf32, byteOf24, byteOf16, byteOf8, byteOf0]
    omega
  have e3 : isA (answerL a c) = true := by
    unfold isA
    rw [e1, e2]
    unfold mayReply
    simp [answerL, h1, h2, h3, h4]
  exact ⟨e3, by simp [aE, e3, e1], by unfold aN; rw [if_pos e3, e2]⟩
theorem answered_back {b : List Int} (hb : bytesOK b) (h : isA b = true) : mayReply (aE b) (aN b) = true ∧ answerO (aE b) (aN b) = b := by
  have e1 : aE b = errOf b := by simp [aE, h]
  have e2 : aN b = getL 0 (b.drop 1) := by simp [aN, h]
  rw [e1, e2]
  unfold isA at h
  simp only [Bool.and_eq_true, decide_eq_true_eq] at h
  obtain ⟨hl, hm⟩ := h
  refine ⟨hm, ?_⟩
  unfold answerO
  rw [if_pos hm]
  match b, hb, hl with
  | [e, a, b, c, d, f, g], hb, _ =>
    obtain ⟨he, hb⟩ := hb.cons; obtain ⟨ha, hb⟩ := hb.cons; obtain ⟨hb', hb⟩ := hb.cons; obtain ⟨hc, hb⟩ := hb.cons; obtain ⟨hd, hb⟩ := hb.cons; obtain ⟨hf, hb⟩ := hb.cons; obtain ⟨hg, _⟩ := hb.cons
    have e3 : errOf [e, a, b, c, d, f, g] = e := by
      show IntKind.i64.wrap e = e
      exact wrap_fits (by omega) (by omega)
    have e4 : getL 0 (List.drop 1 [e, a, b, c, d, f, g]) = ((((a * 256 + b) * 256 + c) * 256 + d) * 256 + f) * 256 + g := getL6 ha hb' hc hd hf hg
    rw [e3, e4]
    unfold answerL
    rw [byteOf40, byteOf32, byteOf24, byteOf16, byteOf8, byteOf0, wrap8_id he]
    simp only [List.cons.injEq, and_true, true_and]
    omega
def lastA (b : List Int) : Tree (AV × List Blk) :=
  .asrt ((!isA b) = false → mayReply (aE b) (aN b) = true → ((answerO (aE b) (aN b)).length : Int) < 9223372036854775807) (.ret (.bool (!isA b || mayReply (aE b) (aN b) && decide (answerO (aE b) (aN b) = b)), []))
theorem f7 (a c : Int) (b : List Int) : callC w33 100 7 [.agg [.int .i64 a, .int .i64 c], .view (.int .u8) b] =
    .ite (decide ((b.length : Int) > 100)) (.ret (.blit true, [])) (.ite (mayReply a c)
      (.ite (!isA (answerO a c) || (!(aE (answerO a c) == a && aN (answerO a c) == c) || ((answerO a c).length : Int) != 7)) noT (lastA b)) (lastA b)) := by kernel_rfl
def good3 (args : List AV) : Prop := ∃ (a c : Int) (b : List Int), args = [.agg [.int .i64 a, .int .i64 c], .view (.int .u8) b] ∧ bytesOK b
theorem lastA_tru {b : List Int} (hb : bytesOK b) : Tru (lastA b) := by
  refine .asrt (fun _ h => by simp [answerO, h, answerL]) (.of ?_)
  cases h : isA b with
  | false => rfl
  | true =>
    obtain ⟨h1, h2⟩ := answered_back hb h
    rw [h1, h2]
    simp
theorem con7_valid : ValidCon w33.P 7 (lawCon good3) := lawCon_of (n := 100) w33_good (by kernel_rfl) fun args ⟨a, c, b, h1, h2⟩ => by
  subst h1
  refine ⟨_, f7 a c b, .ite (fun _ => .yes) fun _ => .ite (fun hm => .ite (fun hb => ?_) fun _ => lastA_tru h2) fun _ => lastA_tru h2⟩
  exfalso
  obtain ⟨h3, h4, h5⟩ := answer_back hm
  have : answerO a c = answerL a c := by simp [answerO, hm]
  rw [this, h3, h4, h5] at hb
  simp [answerL] at hb

/-! ### WireBack -/
theorem getO_yes {b : List Int} (h : asks b = true) : getO b = cand b := by simp [getO, h]
def lastB (b : List Int) : Tree (AV × List Blk) :=
  .asrt (bytesOK b ∧ (b.length : Int) < 17592186044416) (.asrt (((getO b).D.length : Int) < 9223372036854775807)
    (.asrt ((!asks b) = false → mayOp (getO b) = true → ((putO (getO b)).length : Int) < 9223372036854775807) (.ret (.bool (!asks b || mayOp (getO b) && decide (putO (getO b) = b)), []))))
def cutB (b : List Int) (k : Int) : List Int := (b.take k.toNat).drop (0 : Int).toNat
theorem f3 (o : Fu.Op) (b : List Int) (k : Int) : callC w33 100 3 [opAV o, .view (.int .u8) b, .int .i64 k] =
    .ite (decide ((b.length : Int) > 100) || decide ((o.D.length : Int) > 100)) (.ret (.blit true, []))
     (.asrt ((o.D.length : Int) < 9223372036854775807) (.asrt ((o.D.length : Int) < 9223372036854775807) (.ite (!mayOp o == mayOp o) noT
      (.ite (mayOp o)
        (.asrt (bytesOK (putO o) ∧ ((putO o).length : Int) < 17592186044416) (.asrt ((!asks (putO o)) = false → ((getO (putO o)).D.length : Int) < 9223372036854775807)
          (.ite (!asks (putO o) || !decide (getO (putO o) = o)) noT
            (.ite (decide (k ≥ 0) && decide (k < ((putO o).length : Int)))
              (.asrt (0 ≤ (0 : Int) ∧ 0 ≤ k ∧ k ≤ ((putO o).length : Int)) (.asrt (bytesOK (cutB (putO o) k) ∧ ((cutB (putO o) k).length : Int) < 17592186044416)
                (.ite (asks (cutB (putO o) k)) noT (lastB b))))
              (lastB b)))))
        (lastB b))))) := by kernel_rfl
theorem cand_D (b : List Int) : (cand b).D.length ≤ b.length := by
  unfold cand
  simp only
  split
  · simp
  split
  · simp
  split
  · simp
  split
  · simp
  · split
    · simp
    · simp
theorem lastB_tru {b : List Int} (hb : bytesOK b) (hl : (b.length : Int) < 17592186044416) : Tru (lastB b) := by
  have hD : ((getO b).D.length : Int) < 9223372036854775807 := by
    unfold getO
    split
    · have := cand_D b; omega
    · simp [zeroOp]
  refine .asrt ⟨hb, hl⟩ (.asrt hD (.asrt (fun _ _ => by have := putO_small (getO b); omega) (.of ?_)))
  cases h : asks b with
  | false => rfl
  | true =>
    obtain ⟨h1, h2⟩ := asks_iff h
    rw [getO_yes h, h1, putO_yes h1, h2]
    simp
theorem asks_short {o : Fu.Op} (hm : mayOp o = true) {k : Int} (h0 : 0 ≤ k) (h1 : k < ((putB o).length : Int)) : asks ((putB o).take k.toNat) = false := by
  cases ha : asks ((putB o).take k.toNat) with
  | false => rfl
  | true =>
    exfalso
    obtain ⟨h2, h3⟩ := asks_iff ha
    have hlen : ((putB o).take k.toNat).length = k.toNat := by rw [List.length_take]; omega
    have hl := putB_len o
    have hl2 := putB_len (cand ((putB o).take k.toNat))
    rw [h3, hlen] at hl2
    have hk1 : 1 ≤ k := by
      rcases Int.lt_or_le k 1 with h | h
      · have : k.toNat = 0 := by omega
        rw [this] at ha
        simp [asks] at ha
      · exact h
    have ek : (cand ((putB o).take k.toNat)).Kind = IntKind.u8.wrap o.Kind := by
      have e1 : ((putB o).take k.toNat).headD 0 = IntKind.u8.wrap o.Kind := by
        obtain ⟨n, hn⟩ : ∃ n, k.toNat = n + 1 := ⟨k.toNat - 1, by omega⟩
        rw [hn]
        rfl
      unfold cand
      simp only [e1]
      split
      · rfl
      split
      · rfl
      split
      · rfl
      split
      · rfl
      · rfl
    have ek2 : IntKind.u8.wrap o.Kind = o.Kind := by rcases may_kind hm with hk | hk | hk | hk | hk <;> rw [hk] <;> decide
    rw [ek, ek2] at hl2
    rcases may_kind hm with hk | hk | hk | hk | hk
    · simp only [hk] at hl hl2; simp at hl hl2; omega
    · simp only [hk] at hl hl2; simp at hl hl2; omega
    · simp only [hk] at hl hl2; simp at hl hl2; omega
    · simp only [hk] at hl hl2; simp at hl hl2; omega
    · have h6 := may_len hm
      have h5 : 2 ≤ k := by simp only [hk] at hl2; simp at hl2; omega
      have e2 : putB o = 4 :: IntKind.u8.wrap o.D.length :: o.D.map IntKind.u8.wrap := by unfold putB; simp [hk]; decide
      obtain ⟨n, hn⟩ : ∃ n, k.toNat = n + 2 := ⟨k.toNat - 2, by omega⟩
      have e3 : (putB o).take k.toNat = 4 :: IntKind.u8.wrap o.D.length :: (o.D.map IntKind.u8.wrap).take n := by rw [e2, hn]; rfl
      rw [e3] at h2 h3
      have e4 : cand (4 :: IntKind.u8.wrap o.D.length :: (o.D.map IntKind.u8.wrap).take n) = ⟨4, 0, ⟨0, 0, 0, 0, 0, 0⟩, 0, 0, 0, 0, 0, (o.D.map IntKind.u8.wrap).take n⟩ := rfl
      rw [e4] at h2 h3
      have h7 := may_len h2
      simp only [putB] at h3
      simp at h3
      have h8 := h3.2.1
      simp only at h7
      rw [List.length_take, List.length_map] at h7
      rw [wrap8_id (by omega), wrap8_id (by omega)] at h8
      simp only [hk] at hl
      simp at hl
      omega
def good4 (args : List AV) : Prop := ∃ (o : Fu.Op) (b : List Int) (k : Int), args = [opAV o, .view (.int .u8) b, .int .i64 k] ∧ bytesOK b ∧ (o.D.length : Int) < 17592186044416
theorem con3_valid : ValidCon w33.P 3 (lawCon good4) := lawCon_of (n := 100) w33_good (by kernel_rfl) fun args ⟨o, b, k, h1, h2, h3⟩ => by
  subst h1
  refine ⟨_, f3 o b k, .ite (fun _ => .yes) fun hb => ?_⟩
  have hbl : (b.length : Int) < 17592186044416 := by
    simp only [Bool.or_eq_false_iff, decide_eq_false_iff_not] at hb
    omega
  refine .asrt (by omega) (.asrt (by omega) (.ite (fun h => by cases hm : mayOp o <;> simp [hm] at h) fun _ => .ite (fun hm => ?_) fun _ => lastB_tru h2 hbl))
  have hs := put_small hm
  rw [putO_yes hm]
  have e1 : getO (putB o) = o := by rw [getO_yes (asks_put hm), cand_put hm]
  refine .asrt ⟨putB_ok o, by omega⟩ (.asrt (fun _ => by rw [e1]; omega) (.ite (fun h => ?_) fun _ => .ite (fun hk => ?_) fun _ => lastB_tru h2 hbl))
  · rw [e1, asks_put hm] at h
    simp at h
  · simp only [Bool.and_eq_true, decide_eq_true_eq] at hk
    have e2 : cutB (putB o) k = (putB o).take k.toNat := by simp [cutB]
    rw [e2]
    refine .asrt ⟨by omega, by omega, by omega⟩ (.asrt ⟨fun x hx => putB_ok o x (List.mem_of_mem_take hx), by rw [List.length_take]; omega⟩ (.ite (fun h => ?_) fun _ => lastB_tru h2 hbl))
    rw [asks_short hm (by omega) hk.2] at h
    cases h

end Go.Fx
