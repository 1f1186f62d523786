import Derived.Test.YtccfojgceohciaaV8
/- The law LiveTells. -/
namespace Go.Fx
open Go Go.Proofs

def oneB (l : List Fu.Live) (now : Int) : Bool := true && (missedL l now == missedL l now && ((lookL l now).1 == (lookL l now).1 && ((lookL l now).2 == (lookL l now).2 && true)))
def oneI (l : List Fu.Live) (now : Int) (p : Prop) : Prop := true = true → (missedL l now == missedL l now) = true → ((lookL l now).1 == (lookL l now).1) = true → ((lookL l now).2 == (lookL l now).2) = true → p
def tellsT (l : List Fu.Live) (now : Int) : Tree (AV × List Blk) :=
  .asrt (smallL l) (.ite (!nearL l || (decide (now > 2199023255552) || decide (now < -1000))) (.ret (.blit true, [])) (.asrt (([] ++ l).length * 136 ≤ 140737488355328) (.asrt (okSt (l, now)) (.asrt (okSt (l, now)) (.asrt (smallL l) (.asrt (smallL l)
    (.asrt (stepL l now = stepL l now ∧ smallL (stepL l now)) (.asrt (oneI l now (okBs (l, now))) (.asrt (oneI l now (okBs (l, now))) (.asrt (oneI l now (beginAll l now = beginAll l now ∧ smallL (beginAll l now)))
    (.asrt (oneB l now = true → smallL l) (.asrt (oneB l now = true → smallL l) (.asrt (oneB l now = true → (mayL l now == mayL l now) = true → okF l) (.asrt (oneB l now = true → (mayL l now == mayL l now) = true → okF l)
    (.asrt (oneB l now = true → (mayL l now == mayL l now) = true → (firstL l == firstL l) = true → okF l) (.asrt (oneB l now = true → (mayL l now == mayL l now) = true → (firstL l == firstL l) = true → okF l)
    (.asrt (oneB l now = true → (mayL l now == mayL l now) = true → (firstL l == firstL l) = true → (idleL l == idleL l) = true → l = [] ++ l ∧ smallL l)
      (.ret (.bool (oneB l now && (mayL l now == mayL l now && (firstL l == firstL l && (idleL l == idleL l && true)))), [])))))))))))))))))))
theorem fTells (l : List Fu.Live) (now : Int) : callC c66 60 3 [.view .live l, .int .i64 now] = tellsT l now := by kernel_rfl
theorem near_x {x : Fu.Live} (h : farX x = false) : smallC x.J ∧ (-1000000 ≤ x.P ∧ x.P ≤ 1000000) ∧ (-1000 ≤ x.N ∧ x.N ≤ 2199023255552) := by
  unfold farX farJ at h
  simp only [Bool.or_eq_false_iff, decide_eq_false_iff_not] at h
  unfold smallC
  omega
theorem begin_small {x : Fu.Live} {now : Int} (h : smallC x.J) : smallC (beginL now x).J := by
  unfold beginL
  cases decide (x.At ≤ now) with
  | false => exact h
  | true =>
    simp only [cond_true]
    unfold newJ
    cases hm : mayJ x.S (jobOf x.S x.N now (now + x.P) x.S.C) with
    | false => unfold smallC zeroJ; simp
    | true =>
      have h1 := of_decide_eq_true hm
      have h2 := h1.1.1
      unfold smallC jobOf
      simp only [cond_true]
      omega
theorem near_ok {l : List Fu.Live} {now : Int} (h : nearL l = true) (h0 : ¬ now > 2199023255552) (h1 : ¬ now < -1000) : okSt (l, now) ∧ okF l ∧ (l.length : Int) ≤ 10 := by
  unfold nearL at h
  rw [Bool.and_eq_true, Bool.not_eq_true', decide_eq_true_eq, List.any_eq_false] at h
  obtain ⟨h2, h3⟩ := h
  have hx : ∀ x ∈ l, smallC x.J ∧ (-1000000 ≤ x.P ∧ x.P ≤ 1000000) ∧ (-1000 ≤ x.N ∧ x.N ≤ 2199023255552) := fun x hx => near_x (by simpa using h2 x hx)
  have hn : nowOK now := ⟨by omega, by omega⟩
  refine ⟨⟨⟨by show (l.length : Int) * 136 ≤ 140737488355328; omega, fun y hy => ?_⟩, hn, fun y hy => ?_⟩, ⟨by omega, fun x hy => (hx x hy).1⟩, h3⟩
  · have := hx y hy
    exact ⟨hn, by omega, by omega⟩
  · obtain ⟨x, hz, rfl⟩ := List.mem_map.1 hy
    exact begin_small (hx x hz).1
theorem tellsT_tru {l : List Fu.Live} {now : Int} (h : smallL l) : Tru (tellsT l now) := by
  refine .asrt h (.ite (fun _ => .yes) fun hn => ?_)
  simp only [Bool.or_eq_false_iff, decide_eq_false_iff_not, Bool.not_eq_false'] at hn
  obtain ⟨h1, h2, h3⟩ := hn
  obtain ⟨k1, k2, k3⟩ := near_ok h1 h2 h3
  have lb : (beginAll l now).length = l.length := List.length_map _
  have ls : (stepL l now).length = l.length := by unfold stepL; rw [List.length_map, runFirst_len, lb]
  have s1 : smallL (stepL l now) := by unfold smallL; rw [ls]; exact h
  have s2 : smallL (beginAll l now) := by unfold smallL; rw [lb]; exact h
  refine .asrt (by rw [List.nil_append]; omega) (.asrt k1 (.asrt k1 (.asrt h (.asrt h (.asrt ⟨rfl, s1⟩ (.asrt (fun _ _ _ _ => k1.1) (.asrt (fun _ _ _ _ => k1.1) (.asrt (fun _ _ _ _ => ⟨rfl, s2⟩)
    (.asrt (fun _ => h) (.asrt (fun _ => h) (.asrt (fun _ _ => k2) (.asrt (fun _ _ => k2) (.asrt (fun _ _ _ => k2) (.asrt (fun _ _ _ => k2) (.asrt (fun _ _ _ _ => ⟨rfl, h⟩) (.of ?_))))))))))))))))
  unfold oneB
  simp
theorem conTells_valid : ValidCon c66.P 3 (lawCon good2L) := lawCon_of (n := 60) c66_good (by kernel_rfl) fun args ⟨l, now, h1, h2, _⟩ => by
  subst h1
  exact ⟨_, fTells l now, tellsT_tru (smallL_of h2)⟩

end Go.Fx
