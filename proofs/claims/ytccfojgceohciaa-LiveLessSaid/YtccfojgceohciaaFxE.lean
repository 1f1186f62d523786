/- Soundness of the operations that only compute. -/
import Derived.Test.YtccfojgceohciaaFxD
import Derived.ChangeKeysEq
namespace Go.Fx
open Go Go.RowKit

section
variable {P : Program} {w : World} {S : Nat → Prop} {φ : Env}

/-- The tree tells what the computation gives, and the world is left alone. -/
def Gives (P : Program) (w : World) (S : Nat → Prop) (φ : Env) (t : Tree AV) (s : Sem Value) : Prop :=
  ∀ Q, t.wp Q → ∃ z v, s.run P w = .ok z w ∧ Q v ∧ Reps w S φ [v] [z]

theorem Gives.fail (s : Sem Value) : Gives P w S φ .fail s := fun _ h => h.elim
theorem Gives.ret {v : AV} {s : Sem Value} {z : Value} (hs : s.run P w = .ok z w) (h : Reps w S φ [v] [z]) : Gives P w S φ (.ret v) s :=
  fun _ hq => ⟨z, v, hs, hq, h⟩
theorem Gives.asrt {p : Prop} {t : Tree AV} {s : Sem Value} (h : p → Gives P w S φ t s) : Gives P w S φ (.asrt p t) s :=
  fun Q hq => h hq.1 Q hq.2
theorem Gives.need {l : Bool} {p : Prop} [Decidable p] {t : Tree AV} {s : Sem Value} (h : p → Gives P w S φ t s) : Gives P w S φ (need l p t) s :=
  fun Q hq => h (need_wp hq).1 Q (need_wp hq).2
theorem Gives.ofOption {o : Option AV} {s : Sem Value} (h : ∀ v, o = some v → Gives P w S φ (.ret v) s) : Gives P w S φ (Tree.ofOption o) s := by
  cases o with
  | none => exact Gives.fail s
  | some v => exact h v rfl
theorem Gives.congr {t : Tree AV} {s s' : Sem Value} (h : Gives P w S φ t s) (hs : s'.run P w = s.run P w) : Gives P w S φ t s' :=
  fun Q hq => let ⟨z, v, h1, h2, h3⟩ := h Q hq; ⟨z, v, hs.trans h1, h2, h3⟩

theorem num_inv {a : AV} {l : Bool} {k : IntKind} {n : Int} (h : a.num = some (l, k, n)) {x : Value} (hr : Reps w S φ [a] [x]) : x = .int k n := by
  cases a <;> simp only [AV.num, reduceCtorEq, Option.some.injEq, Prod.mk.injEq] at h
  · obtain ⟨_, rfl, rfl⟩ := h; cases hr; rfl
  · obtain ⟨_, rfl, rfl⟩ := h; cases hr; rfl
theorem truth_inv {a : AV} {l b : Bool} (h : a.truth = some (l, b)) {x : Value} (hr : Reps w S φ [a] [x]) : x = .bool b := by
  cases a <;> simp only [AV.truth, reduceCtorEq, Option.some.injEq, Prod.mk.injEq] at h
  · obtain ⟨_, rfl⟩ := h; cases hr; rfl
  · obtain ⟨_, rfl⟩ := h; cases hr; rfl
theorem mkInt_rep (l : Bool) (k : IntKind) (n : Int) : Reps w S φ [mkInt l k n] [.int k n] := by
  cases l
  · exact .int _ _ .nil
  · exact .lit _ _ .nil
theorem mkBool_rep (l b : Bool) : Reps w S φ [mkBool l b] [.bool b] := by
  cases l
  · exact .bool _ .nil
  · exact .blit _ .nil
theorem str_inv {l : List UInt8} {x : Value} (hr : Reps w S φ [.str l] [x]) : ∃ s : ByteArray, x = .string s ∧ s.data.toList = l := by
  cases hr with
  | str s => exact ⟨s, rfl, rfl⟩

/-! ### numbers -/
theorem arithV_gives {f : IntKind → Int → Int → Int} {a b : AV} {x y : Value} {s : Value → Value → Sem Value}
    (hf : ∀ k m n, (s (.int k m) (.int k n)).run P w = .ok (.int k (f k m n)) w) (ha : Reps w S φ [a] [x]) (hb : Reps w S φ [b] [y]) : Gives P w S φ (arithV f a b) (s x y) := by
  unfold arithV
  split
  · rename_i l k m l' k' n h1 h2
    cases num_inv h1 ha
    cases num_inv h2 hb
    split
    · rename_i hk
      subst hk
      exact .ret (hf _ _ _) (mkInt_rep _ _ _)
    · exact .fail _
  · exact .fail _
theorem cmpV_gives {f : Int → Int → Bool} {a b : AV} {x y : Value} {s : Value → Value → Sem Value}
    (hf : ∀ k m n, (s (.int k m) (.int k n)).run P w = .ok (.bool (f m n)) w) (ha : Reps w S φ [a] [x]) (hb : Reps w S φ [b] [y]) : Gives P w S φ (cmpV f a b) (s x y) := by
  unfold cmpV
  split
  · rename_i l k m l' k' n h1 h2
    cases num_inv h1 ha
    cases num_inv h2 hb
    split
    · rename_i hk
      subst hk
      exact .ret (hf _ _ _) (mkBool_rep _ _)
    · exact .fail _
  · exact .fail _
theorem shiftV_gives {f : IntKind → Int → Int → Int} {a b : AV} {x y : Value} {s : Value → Value → Sem Value}
    (hf : ∀ k m k' n, 0 ≤ n → (s (.int k m) (.int k' n)).run P w = .ok (.int k (f k m n)) w) (ha : Reps w S φ [a] [x]) (hb : Reps w S φ [b] [y]) : Gives P w S φ (shiftV f a b) (s x y) := by
  unfold shiftV
  split
  · rename_i l k m l' k' n h1 h2
    cases num_inv h1 ha
    cases num_inv h2 hb
    exact .need fun hn => .ret (hf _ _ _ _ hn) (mkInt_rep _ _ _)
  · exact .fail _
theorem divV_gives {f : IntKind → Int → Int → Int} {a b : AV} {x y : Value} {s : Value → Value → Sem Value}
    (hf : ∀ k m n, n ≠ 0 → (s (.int k m) (.int k n)).run P w = .ok (.int k (f k m n)) w) (ha : Reps w S φ [a] [x]) (hb : Reps w S φ [b] [y]) : Gives P w S φ (divV f a b) (s x y) := by
  unfold divV
  split
  · rename_i l k m l' k' n h1 h2
    cases num_inv h1 ha
    cases num_inv h2 hb
    split
    · rename_i hk
      subst hk
      exact .need fun hn => .ret (hf _ _ _ hn) (mkInt_rep _ _ _)
    · exact .fail _
  · exact .fail _

/-! ### parts of values -/
theorem szOf_run {t : TypeId} {n : Nat} (h : szOf P t = some n) : (sizeOf t).run P w = .ok n w := by
  unfold szOf at h
  split at h
  · rename_i i d hi hd
    cases h
    simp [sizeOf, typeInfo, hi]
  · cases h
theorem szOf_und {t : TypeId} {n : Nat} (h : szOf P t = some n) : ∃ d, P.underlying t = some d := by
  unfold szOf at h
  split at h
  · rename_i i d hi hd; exact ⟨d, hd⟩
  · cases h
theorem szOf_info {t : TypeId} {n : Nat} (h : szOf P t = some n) : ∃ i, P.info? t = some i ∧ i.size = n := by
  unfold szOf at h
  split at h
  · rename_i i d hi hd; exact ⟨i, hi, by simpa using h⟩
  · cases h
theorem info_run {t : TypeId} {i : TypeInfo} (h : P.info? t = some i) : (typeInfo t).run P w = .ok i w := by simp [typeInfo, h]
theorem und_run {t : TypeId} {d : TypeDesc} (h : P.underlying t = some d) : (underlying t).run P w = .ok d w := by simp [underlying, h]
theorem isAgg_run {t : TypeId} {d : TypeDesc} (h : P.underlying t = some d) : (isAgg t).run P w = .ok (isAggT P t) w := by
  simp only [isAgg, Sem.run_bind, und_run h, Result.andThen_ok, isAggT, h]
  cases d <;> rfl

theorem partAV_inv {t : TypeId} {cs : List AV} {off : Nat} {v : AV} (h : partAV P t cs off = some v) {us : List Value} (hr : Reps w S φ cs us) :
    ∃ n, szOf P t = some n ∧ off + n ≤ cs.length ∧
      ((isAggT P t = true ∧ v = .agg ((cs.drop off).take n) ∧ Reps w S φ [v] [.agg ((us.drop off).take n).toArray]) ∨
       (isAggT P t = false ∧ n = 1 ∧ ∃ c z, cs[off]? = some c ∧ v = c ∧ us[off]? = some z ∧ Reps w S φ [v] [z])) := by
  unfold partAV at h
  split at h
  · cases h
  · rename_i n hn
    split at h
    · rename_i hle
      refine ⟨n, hn, hle, ?_⟩
      split at h
      · rename_i hagg
        cases h
        exact .inl ⟨hagg, rfl, .agg ((hr.drop off).take n) .nil⟩
      · rename_i hagg
        right
        split at h
        · rename_i c rest hd
          split at h
          · rename_i h1
            cases h
            have hg : cs[off]? = some v := by
              have := congrArg (fun l => l[0]?) hd
              simpa using this
            obtain ⟨z, hz, hz'⟩ := hr.get hg
            exact ⟨by simpa using hagg, h1, v, z, hg, rfl, hz, hz'⟩
          · cases h
        · cases h
    · cases h

/-- 'part', of a whole value. -/
theorem part_gives {t : TypeId} {cs : List AV} {off : Nat} {v : AV} {d : TypeDesc} (hd : P.underlying t = some d) (h : partAV P t cs off = some v) {us : Array Value} (hr : Reps w S φ cs us.toList) :
    ∃ z, (part t us off).run P w = .ok z w ∧ Reps w S φ [v] [z] := by
  obtain ⟨n, hn, hle, h⟩ := partAV_inv h hr
  have hl := hr.len
  rcases h with ⟨hagg, rfl, hv⟩ | ⟨hagg, rfl, c, z, hc, rfl, hz, hv⟩
  · refine ⟨_, ?_, hv⟩
    simp only [part, Sem.run_bind, isAgg_run hd, hagg, Result.andThen_ok, if_true, szOf_run hn, Sem.run_pure]
    congr 2
    apply Array.ext'
    simp [List.take_drop]
  · refine ⟨z, ?_, hv⟩
    simp only [part, Sem.run_bind, isAgg_run hd, hagg, Result.andThen_ok, if_false, Bool.false_eq_true]
    rw [← Array.getElem?_toList, hz]
    rfl

/-! ### comparisons -/
theorem andAV_inv {a b r : AV} (h : andAV a b = some r) {x y : Bool} (ha : Reps w S φ [a] [.bool x]) (hb : x = true → Reps w S φ [b] [.bool y]) : Reps w S φ [r] [.bool (x && y)] := by
  unfold andAV at h
  split at h <;> try cases h
  · cases ha; simpa using hb rfl
  · cases ha; exact .blit _ .nil
  · cases ha; exact .blit _ .nil
  · cases ha with
    | bool => cases x with
      | false => exact .bool _ .nil
      | true => cases hb rfl; exact .bool _ .nil
  · cases ha with
    | bool => cases x with
      | false => exact .blit _ .nil
      | true => cases hb rfl; exact .blit _ .nil
  · cases ha with
    | bool => cases x with
      | false => exact .bool _ .nil
      | true => cases hb rfl; exact .bool _ .nil
theorem notAV_inv {a r : AV} (h : notAV a = some r) {x : Bool} (ha : Reps w S φ [a] [.bool x]) : Reps w S φ [r] [.bool (!x)] := by
  unfold notAV at h
  split at h <;> try cases h
  · cases ha; exact .blit _ .nil
  · cases ha; exact .bool _ .nil


theorem eqFields_run {d : Nat} {f : TypeId → AV → AV → Option AV} (hf : ∀ t a b r x y, f t a b = some r → Reps w S φ [a] [x] → Reps w S φ [b] [y] → ∃ z, (Op.equalIn d t x y).run P w = .ok z w ∧ Reps w S φ [r] [.bool z])
    (hu : ∀ t a b r, f t a b = some r → ∃ dd, P.underlying t = some dd)
    {xs ys : List AV} {us vs : Array Value} (hx : Reps w S φ xs us.toList) (hy : Reps w S φ ys vs.toList) :
    ∀ {fs : List Field} {r : AV}, (∀ g ∈ fs, g.name ≠ "_") → eqFields P f xs ys fs = some r → ∃ z, (Op.eqFields d us vs fs).run P w = .ok z w ∧ Reps w S φ [r] [.bool z]
  | [], r, _, h => by
    simp only [eqFields, Option.some.injEq] at h
    subst h
    exact ⟨true, by simp [Op.eqFields], .blit _ .nil⟩
  | g :: fs, r, hn, h => by
    unfold eqFields at h
    split at h
    · rename_i a b ha hb
      split at h
      · rename_i r1 r2 h1 h2
        obtain ⟨dd, hdd⟩ := hu _ _ _ _ h1
        obtain ⟨x, hpx, hrx⟩ := part_gives (S := S) hdd ha hx
        obtain ⟨y, hpy, hry⟩ := part_gives (S := S) hdd hb hy
        obtain ⟨z1, hz1, hr1⟩ := hf _ _ _ _ _ _ h1 hrx hry
        obtain ⟨z2, hz2, hr2⟩ := eqFields_run hf hu hx hy (fun g' hg' => hn g' (by simp [hg'])) h2
        refine ⟨z1 && z2, ?_, andAV_inv h hr1 (fun _ => hr2)⟩
        rw [Op.eqFields]
        simp only [if_pos (hn g (by simp)), Sem.run_bind, hpx, hpy, hz1, Result.andThen_ok]
        cases z1
        · simp
        · simpa using hz2
      · cases h
    · cases h

theorem eqElems_run {d : Nat} {f : AV → AV → Option AV} {e : TypeId} {sz : Nat} {dd : TypeDesc} (he : P.underlying e = some dd)
    (hf : ∀ a b r x y, f a b = some r → Reps w S φ [a] [x] → Reps w S φ [b] [y] → ∃ z, (Op.equalIn d e x y).run P w = .ok z w ∧ Reps w S φ [r] [.bool z])
    {xs ys : List AV} {us vs : Array Value} (hx : Reps w S φ xs us.toList) (hy : Reps w S φ ys vs.toList) :
    ∀ {n i : Nat} {r : AV}, eqElems P f e sz xs ys i n = some r → ∃ z, (Op.eqItems d e sz us vs (List.range' i n)).run P w = .ok z w ∧ Reps w S φ [r] [.bool z]
  | 0, i, r, h => by
    simp only [eqElems, Option.some.injEq] at h
    subst h
    exact ⟨true, by simp [Op.eqItems], .blit _ .nil⟩
  | n + 1, i, r, h => by
    unfold eqElems at h
    split at h
    · rename_i a b ha hb
      split at h
      · rename_i r1 r2 h1 h2
        obtain ⟨x, hpx, hrx⟩ := part_gives (S := S) he ha hx
        obtain ⟨y, hpy, hry⟩ := part_gives (S := S) he hb hy
        obtain ⟨z1, hz1, hr1⟩ := hf _ _ _ _ _ h1 hrx hry
        obtain ⟨z2, hz2, hr2⟩ := eqElems_run he hf hx hy h2
        refine ⟨z1 && z2, ?_, andAV_inv h hr1 (fun _ => hr2)⟩
        simp only [List.range'_succ, Op.eqItems, Sem.run_bind, hpx, hpy, hz1, Result.andThen_ok]
        cases z1
        · simp
        · simpa using hz2
      · cases h
    · cases h

theorem eqV_und {d : Nat} {t : TypeId} {a b r : AV} (h : eqV P d t a b = some r) : ∃ dd, P.underlying t = some dd := by
  cases d with
  | zero => cases h
  | succ d =>
    unfold eqV at h
    cases hu : P.underlying t with
    | none => simp [hu] at h
    | some dd => exact ⟨dd, rfl⟩

theorem eqV_run : ∀ {d : Nat} {t : TypeId} {a b r : AV} {x y : Value}, eqV P d t a b = some r → Reps w S φ [a] [x] → Reps w S φ [b] [y] → ∀ m, d ≤ m →
    ∃ z, (Op.equalIn m t x y).run P w = .ok z w ∧ Reps w S φ [r] [.bool z]
  | 0, _, _, _, _, _, _, h, _, _, _, _ => by cases h
  | d + 1, t, a, b, r, x, y, h, ha, hb, m, hm => by
    obtain ⟨m, rfl⟩ : ∃ k, m = k + 1 := ⟨m - 1, by omega⟩
    unfold eqV at h
    split at h
    · rename_i k hu
      split at h
      · rename_i l k1 n1 l' k2 n2 h1 h2
        split at h
        · rename_i hk
          obtain ⟨rfl, rfl⟩ := hk
          cases h
          cases num_inv h1 ha
          cases num_inv h2 hb
          exact ⟨_, run_equalIn_int w m t _ _ _ _ hu, mkBool_rep _ _⟩
        · cases h
      · cases h
    · rename_i hu
      split at h
      · rename_i l1 b1 l2 b2 h1 h2
        cases h
        cases truth_inv h1 ha
        cases truth_inv h2 hb
        exact ⟨_, run_equalIn_bool' w m t _ _ hu, mkBool_rep _ _⟩
      · cases h
    · rename_i hu
      split at h
      · cases h
        obtain ⟨s1, rfl, rfl⟩ := str_inv ha
        obtain ⟨s2, rfl, rfl⟩ := str_inv hb
        refine ⟨s1 == s2, by simp [Op.equalIn, und_run hu], ?_⟩
        have : (s1.data.toList == s2.data.toList) = (s1 == s2) := by rw [beq_toListBytes, ByteArray.toList_eq, ByteArray.toList_eq]
        rw [this]
        exact .bool _ .nil
      · cases h
    · rename_i e hu
      split at h <;> first | (cases h; done) | skip
      · cases h; cases ha; cases hb
        exact ⟨true, by simp [Op.equalIn, und_run hu], .blit _ .nil⟩
      · cases h; cases ha; cases hb
        exact ⟨false, by simp [Op.equalIn, und_run hu], .blit _ .nil⟩
      · cases h; cases ha; cases hb
        exact ⟨false, by simp [Op.equalIn, und_run hu], .blit _ .nil⟩
    · rename_i e hu
      split at h <;> first | (cases h; done) | skip
      · cases h; cases ha; cases hb
        exact ⟨true, by simp [Op.equalIn, und_run hu], .blit _ .nil⟩
      · cases h; cases ha; cases hb
        exact ⟨false, by simp [Op.equalIn, und_run hu], .blit _ .nil⟩
      · cases h; cases ha; cases hb
        exact ⟨false, by simp [Op.equalIn, und_run hu], .blit _ .nil⟩
    · rename_i fs hu
      split at h
      · split at h
        · cases h
        · rename_i hc
          simp only [Bool.or_eq_true, not_or, Bool.not_eq_true] at hc
          cases ha with
          | agg ha =>
            cases hb with
            | agg hb =>
              have hfo : P.fieldsOf t = fs := by simp [Program.fieldsOf, hu]
              rw [run_equalIn_struct (P := P) w m t _ _ (by rw [hfo]; exact hu) hc.1, hfo]
              refine eqFields_run (f := eqV P d) (d := m) (fun t a b r x y h1 h2 h3 => eqV_run h1 h2 h3 m (by omega)) (fun t a b r h1 => eqV_und h1) (by simpa using ha) (by simpa using hb) ?_ h
              intro g hg hname
              have := hc.2
              rw [Array.any_eq_false'] at this
              exact this g (by simpa using hg) (by simp [hname])
      · cases h
    · rename_i n e hu
      split at h
      · rename_i xs ys sz hsz
        cases ha with
        | agg ha =>
          cases hb with
          | agg hb =>
            obtain ⟨i, hi, hsz'⟩ := szOf_info hsz
            have hco : P.cellsOf e = sz := by simp [Program.cellsOf, hi, hsz']
            rw [run_equalIn_array (P := P) w m _ _ hu hi, hco, List.range_eq_range']
            cases n with
            | zero =>
              simp only [eqElems, Option.some.injEq] at h
              subst h
              exact ⟨true, by simp [Op.eqItems], .blit _ .nil⟩
            | succ n =>
              obtain ⟨dd, hdd⟩ : ∃ dd, P.underlying e = some dd := by
                unfold eqElems at h
                split at h
                · split at h
                  · rename_i h1 h2; exact eqV_und h1
                  · cases h
                · cases h
              exact eqElems_run hdd (fun a b r x y h1 h2 h3 => eqV_run h1 h2 h3 m (by omega)) (by simpa using ha) (by simpa using hb) h
      · cases h
    · cases h

end

end Go.Fx
