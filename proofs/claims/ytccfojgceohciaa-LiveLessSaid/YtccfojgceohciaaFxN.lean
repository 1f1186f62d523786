/- Operations in no order can change places: trees alone. -/
import Derived.Test.YtccfojgceohciaaFxM
namespace Go.Fx
open Go

/-! ### the heap's list -/
theorem blt_iff (a b : Nat) : Nat.blt a b = decide (a < b) := by
  by_cases h : a < b
  · simp [h, Nat.blt]; omega
  · simp only [h, decide_false]
    cases hb : Nat.blt a b with
    | false => rfl
    | true => rw [Nat.blt, Nat.ble_eq] at hb; omega
theorem ins_cons (c n : Nat) (y x : Blk) (h : Heap) : Heap.ins ((c, y) :: h) n x = if n < c then (n, x) :: (c, y) :: h else (c, y) :: Heap.ins h n x := by
  unfold Heap.ins
  rw [blt_iff]
  by_cases hn : n < c <;> simp [hn]
  cases h <;> rfl
theorem put_cons (c n : Nat) (y x : Blk) (h : Heap) : Heap.put ((c, y) :: h) n x = if c = n then (c, x) :: h else (c, y) :: Heap.put h n x := by
  unfold Heap.put
  by_cases hn : c = n
  · subst hn; simp
  · rw [beq_false hn]; simp [hn]
    cases h <;> rfl
theorem del_cons (c n : Nat) (y : Blk) (h : Heap) : Heap.del ((c, y) :: h) n = if c = n then Heap.del h n else (c, y) :: Heap.del h n := by
  conv => lhs; unfold Heap.del
  by_cases hn : c = n
  · subst hn; simp
  · rw [beq_false hn]; simp [hn]
theorem get_cons (c n : Nat) (y : Blk) (h : Heap) : Heap.get ((c, y) :: h) n = if c = n then some y else Heap.get h n := by
  conv => lhs; unfold Heap.get
  by_cases hn : c = n
  · subst hn; simp
  · rw [beq_false hn]; simp [hn]
theorem asc_cons (m c : Nat) (y : Blk) (h : Heap) : ascH m ((c, y) :: h) = true ↔ m ≤ c ∧ ascH c h = true := by
  simp [ascH]

theorem ins_ins {n m : Nat} (hne : n ≠ m) (x y : Blk) : ∀ h : Heap, (h.ins n x).ins m y = (h.ins m y).ins n x
  | [] => by
    show Heap.ins [(n, x)] m y = Heap.ins [(m, y)] n x
    rw [ins_cons, ins_cons]
    by_cases h : m < n
    · have : ¬ n < m := by omega
      simp [h, this, Heap.ins]
    · have : n < m := by omega
      simp [h, this, Heap.ins]
  | (c, z) :: h => by
    rw [ins_cons c n, ins_cons c m]
    by_cases h1 : n < c <;> by_cases h2 : m < c <;> simp only [h1, h2, if_true, if_false, ins_cons]
    · by_cases h3 : m < n
      · have : ¬ n < m := by omega
        simp [h3, this]
      · have : n < m := by omega
        simp [h3, this]
    · have : ¬ m < n := by omega
      simp [this]
    · have : ¬ n < m := by omega
      simp [this]
    · rw [ins_ins hne x y h]
theorem put_ins {n b : Nat} (hne : n ≠ b) (x z : Blk) : ∀ h : Heap, (h.get b).isSome = true → (h.ins n x).put b z = (h.put b z).ins n x
  | [], hb => by simp [Heap.get] at hb
  | (c, y) :: h, hb => by
    rw [get_cons] at hb
    by_cases h2 : c = b
    · subst h2
      by_cases h1 : n < c
      · rw [ins_cons, put_cons, if_pos h1, if_pos rfl, put_cons, if_neg hne, put_cons, if_pos rfl, ins_cons, if_pos h1]
      · rw [ins_cons, put_cons, if_neg h1, if_pos rfl, put_cons, if_pos rfl, ins_cons, if_neg h1]
    · rw [if_neg h2] at hb
      by_cases h1 : n < c
      · rw [ins_cons, put_cons, if_pos h1, if_neg h2, put_cons, if_neg hne, put_cons, if_neg h2, ins_cons, if_pos h1]
      · rw [ins_cons, put_cons, if_neg h1, if_neg h2, put_cons, if_neg h2, ins_cons, if_neg h1, put_ins hne x z h hb]
theorem asc_ins (n : Nat) (x : Blk) : ∀ (h : Heap) (m : Nat), ascH m (h.ins n x) = true ↔ m ≤ n ∧ ascH m h = true
  | [], m => by simp [Heap.ins, ascH]
  | (c, y) :: h, m => by
    rw [ins_cons, asc_cons]
    by_cases h1 : n < c
    · rw [if_pos h1, asc_cons, asc_cons]
      exact ⟨fun h => ⟨h.1, by omega, h.2.2⟩, fun h => ⟨h.1, by omega, h.2.2⟩⟩
    · rw [if_neg h1, asc_cons, asc_ins n x h c]
      exact ⟨fun h => ⟨by omega, h.1, h.2.2⟩, fun h => ⟨h.2.1, by omega, h.2.2⟩⟩
theorem asc_le {h : Heap} {m n : Nat} (hm : m ≤ n) (hh : ascH n h = true) : ascH m h = true := by
  cases h with
  | nil => rfl
  | cons p h =>
    obtain ⟨c, y⟩ := p
    rw [asc_cons] at hh ⊢
    exact ⟨by omega, hh.2⟩
theorem asc_del (b : Nat) : ∀ (h : Heap) (m : Nat), ascH m h = true → ascH m (h.del b) = true
  | [], _, _ => rfl
  | (c, y) :: h, m, hh => by
    rw [asc_cons] at hh
    rw [del_cons]
    split
    · exact asc_le hh.1 (asc_del b h c hh.2)
    · rw [asc_cons]; exact ⟨hh.1, asc_del b h c hh.2⟩
theorem ins_front {h : Heap} {n c : Nat} (x : Blk) (hn : n < c) (hh : ascH c h = true) : h.ins n x = (n, x) :: h := by
  cases h with
  | nil => rfl
  | cons p h =>
    obtain ⟨d, y⟩ := p
    rw [asc_cons] at hh
    rw [ins_cons, if_pos (by omega)]
theorem del_ins {n b : Nat} (hne : n ≠ b) (x : Blk) : ∀ (h : Heap) (m : Nat), ascH m h = true → (h.ins n x).del b = (h.del b).ins n x
  | [], _, _ => by
    show Heap.del [(n, x)] b = _
    rw [del_cons, if_neg hne]
    rfl
  | (c, y) :: h, m, hh => by
    rw [asc_cons] at hh
    by_cases h2 : c = b
    · subst h2
      by_cases h1 : n < c
      · rw [ins_cons, if_pos h1, del_cons, if_neg hne, del_cons, if_pos rfl]
        exact (ins_front x h1 (asc_del c h c hh.2)).symm
      · rw [ins_cons, if_neg h1, del_cons, if_pos rfl, del_cons, if_pos rfl]
        exact del_ins hne x h c hh.2
    · by_cases h1 : n < c
      · rw [ins_cons, if_pos h1, del_cons, if_neg hne, del_cons, if_neg h2, ins_cons, if_pos h1]
      · rw [ins_cons, if_neg h1, del_cons, if_neg h2, del_cons, if_neg h2, ins_cons, if_neg h1, del_ins hne x h c hh.2]

theorem insBlks_get : ∀ (l : List Blk) {b n : Nat} (h : Heap), ¬ (b ≤ n ∧ n < b + l.length) → (insBlks b l h).get n = h.get n
  | [], _, _, _, _ => rfl
  | x :: l, b, n, h, hn => by
    simp only [List.length_cons] at hn
    unfold insBlks
    rw [insBlks_get l _ (by omega), Heap.get_ins_ne x (by omega)]
theorem insBlks_ins {n : Nat} (x : Blk) : ∀ (l : List Blk) {b : Nat} (h : Heap), ¬ (b ≤ n ∧ n < b + l.length) → (insBlks b l h).ins n x = insBlks b l (h.ins n x)
  | [], _, _, _ => rfl
  | y :: l, b, h, hn => by
    simp only [List.length_cons] at hn
    unfold insBlks
    rw [insBlks_ins x l _ (by omega), ins_ins (by omega)]
theorem insBlks_insBlks : ∀ (l : List Blk) {l' : List Blk} {b b' : Nat} (h : Heap), (b + l.length ≤ b' ∨ b' + l'.length ≤ b) → insBlks b l (insBlks b' l' h) = insBlks b' l' (insBlks b l h)
  | [], _, _, _, _, _ => rfl
  | x :: l, l', b, b', h, hd => by
    simp only [List.length_cons] at hd
    show insBlks (b + 1) l ((insBlks b' l' h).ins b x) = insBlks b' l' (insBlks (b + 1) l (h.ins b x))
    rw [insBlks_ins x l' h (by omega), insBlks_insBlks l _ (by omega)]
theorem insBlks_put {n : Nat} (z : Blk) : ∀ (l : List Blk) {b : Nat} (h : Heap), ¬ (b ≤ n ∧ n < b + l.length) → (h.get n).isSome = true → (insBlks b l h).put n z = insBlks b l (h.put n z)
  | [], _, _, _, _ => rfl
  | y :: l, b, h, hn, hs => by
    simp only [List.length_cons] at hn
    unfold insBlks
    rw [insBlks_put z l _ (by omega) (by rw [Heap.get_ins_ne y (by omega)]; exact hs), put_ins (by omega) y z h hs]
theorem insBlks_asc : ∀ (l : List Blk) {b m : Nat} (h : Heap), m ≤ b → (ascH m (insBlks b l h) = true ↔ ascH m h = true)
  | [], _, _, _, _ => Iff.rfl
  | y :: l, b, m, h, hm => by
    unfold insBlks
    rw [insBlks_asc l _ (by omega), asc_ins]
    exact ⟨fun h => h.2, fun h => ⟨hm, h⟩⟩
theorem insBlks_del {n : Nat} : ∀ (l : List Blk) {b : Nat} (h : Heap), ¬ (b ≤ n ∧ n < b + l.length) → ascH 0 h = true → (insBlks b l h).del n = insBlks b l (h.del n)
  | [], _, _, _, _ => rfl
  | y :: l, b, h, hn, hs => by
    simp only [List.length_cons] at hn
    unfold insBlks
    rw [insBlks_del l _ (by omega) ((asc_ins b y h 0).2 ⟨Nat.zero_le _, hs⟩), del_ins (by omega) y h 0 hs]

/-! ### slots -/
theorem nth_setNth_ne {d t : Nat} (hne : t ≠ d) (v : AV) : ∀ ts : List AV, nth (setNth ts d v) t = nth ts t := by
  intro ts
  induction ts generalizing d t with
  | nil => rfl
  | cons a ts ih =>
    cases d with
    | zero =>
      cases t with
      | zero => exact absurd rfl hne
      | succ t => rfl
    | succ d =>
      cases t with
      | zero => rfl
      | succ t => simpa [setNth, nth] using ih (d := d) (t := t) (by omega)
theorem setNth_comm {d d' : Nat} (hne : d ≠ d') (v v' : AV) : ∀ ts : List AV, setNth (setNth ts d v) d' v' = setNth (setNth ts d' v') d v := by
  intro ts
  induction ts generalizing d d' with
  | nil => rfl
  | cons a ts ih =>
    cases d with
    | zero =>
      cases d' with
      | zero => exact absurd rfl hne
      | succ d' => rfl
    | succ d =>
      cases d' with
      | zero => rfl
      | succ d' => simp [setNth, ih (d := d) (d' := d') (by omega)]
theorem memNat_iff (n : Nat) : ∀ l : List Nat, memNat n l = true ↔ n ∈ l
  | [] => by simp [memNat]
  | m :: l => by simp [memNat, memNat_iff n l]

theorem apart1_spec {ops : Array Oper} {a b : Oper} (h : apart1 ops a b = true) {d : Nat} (hd : a.dst = some d) : d ∉ tmpsIn b ∧ d ∉ guardSlot ops b ∧ b.dst ≠ some d := by
  simp only [apart1, hd, Bool.and_eq_true, Bool.not_eq_true'] at h
  obtain ⟨⟨h1, h2⟩, h3⟩ := h
  refine ⟨fun hm => ?_, fun hm => ?_, fun hb => ?_⟩
  · rw [(memNat_iff _ _).2 hm] at h1; cases h1
  · rw [(memNat_iff _ _).2 hm] at h2; cases h2
  · rw [hb] at h3; simp at h3

theorem evO_put {ops : Array Oper} {a b : Oper} (h : apart1 ops a b = true) (v : AV) (ts : List AV) : ∀ x ∈ b.op.operands, evO (putT a.dst v ts) x = evO ts x := by
  intro x hx
  cases hd : a.dst with
  | none => rfl
  | some d =>
    cases x with
    | tmp t =>
      have h1 := (apart1_spec h hd).1
      have hne : t ≠ d := by
        rintro rfl
        exact h1 (List.mem_filterMap.2 ⟨.tmp t, by simpa using hx, rfl⟩)
      exact nth_setNth_ne hne v ts
    | _ => rfl
theorem wantedV_put {ops : Array Oper} {a b : Oper} (h : apart1 ops a b = true) (v : AV) (ts : List AV) : wantedV ops b (putT a.dst v ts) = wantedV ops b ts := by
  cases hd : a.dst with
  | none => rfl
  | some d =>
    unfold wantedV
    split
    · rfl
    · rename_i j want hg
      split
      · rfl
      · rename_i oj hj
        split
        · rfl
        · rename_i e he
          have h1 := (apart1_spec h hd).2.1
          have hne : e ≠ d := by
            rintro rfl
            exact h1 (by simp [guardSlot, hg, hj, he])
          simp only [putT, nth_setNth_ne hne v ts]
theorem putT_comm {ops : Array Oper} {a b : Oper} (h : apart1 ops a b = true) (v u : AV) (ts : List AV) : putT b.dst u (putT a.dst v ts) = putT a.dst v (putT b.dst u ts) := by
  cases hd : a.dst with
  | none => rfl
  | some d =>
    cases he : b.dst with
    | none => rfl
    | some e =>
      have h1 := (apart1_spec h hd).2.2
      have hne : d ≠ e := by rintro rfl; exact h1 he
      exact setNth_comm hne v u ts

/-! ### an operation looks at its operands alone -/
theorem map_congr_arr {α : Type} {f g : α → AV} {l : Array α} (h : ∀ x ∈ l, f x = g x) : l.toList.map f = l.toList.map g := List.map_congr_left fun x hx => h x (by simpa using hx)
theorem callTo_congr {P : Program} {ρ ρ' : Operand → AV} {c : Call} (h : ∀ x ∈ c.operands, ρ x = ρ' x) : callTo P ρ c = callTo P ρ' c := by
  have hargs : c.args.toList.map ρ = c.args.toList.map ρ' := map_congr_arr fun x hx => h x (by simp [Call.operands, hx])
  unfold callTo
  rw [hargs]
  cases hc : c.callee with
  | value f => simp only [h f (by simp [Call.operands, hc])]
  | invoke r m => simp only [h r (by simp [Call.operands, hc])]
  | builtin b => rfl
theorem opt_congr {ρ ρ' : Operand → AV} {o : Option Operand} (h : ∀ x, o = some x → ρ x = ρ' x) : o.map ρ = o.map ρ' := by
  cases o with
  | none => rfl
  | some x => simp [h x rfl]
theorem resD_congr (C : Cfg) (base : Nat) {o : Oper} {ρ ρ' : Operand → AV} (look : Nat → Option Blk) (h : ∀ x ∈ o.op.operands, ρ x = ρ' x) : resD C base o ρ look = resD C base o ρ' look := by
  obtain ⟨dst, op, type, pos, after, guard⟩ := o
  have pairs : ∀ ps : Array (Nat × Operand), (∀ x ∈ ps.map (·.2), ρ x = ρ' x) → (ps.toList.map fun (i, x) => (i, ρ x)) = (ps.toList.map fun (i, x) => (i, ρ' x)) := fun ps hp =>
    List.map_congr_left fun p hm => by
      obtain ⟨i, x⟩ := p
      simp only [hp x (Array.mem_map.2 ⟨(i, x), by simpa using hm, rfl⟩)]
  cases op <;> simp only [Op.operands] at h <;> simp only [resD]
  case build t ps => rw [pairs ps fun x hx => h x (by simpa using hx)]
  case buildSlice t n ps => rw [pairs ps fun x hx => h x (by simpa using hx)]
  case makeFunc fn first captured =>
    rw [map_congr_arr (l := first) fun x hx => h x (by simp [hx]), map_congr_arr (l := captured) fun x hx => h x (by simp [hx])]
  case call c =>
    rw [callTo_congr h]
    have hargs : c.args.toList.map ρ = c.args.toList.map ρ' := map_congr_arr fun x hx => h x (by simp [Call.operands, hx])
    have h0 : ∀ x, c.args[0]? = some x → ρ x = ρ' x := fun x hx => h x (by simp [Call.operands, Array.mem_of_getElem? hx])
    split
    · split
      · rename_i hx; rw [h0 _ hx]
      · rfl
    · rw [hargs]
    · rw [hargs]
    · rfl
    · rfl
  case slice t x lo hi mx =>
    rw [opt_congr (o := lo) fun x hx => h x (by simp [hx]), opt_congr (o := hi) fun x hx => h x (by simp [hx]), opt_congr (o := mx) fun x hx => h x (by simp [hx]), h x (by simp)]
  case makeMap t r => cases r <;> rfl
  all_goals (first | rfl | (simp_all; done))

theorem effOp_congr (C : Cfg) {o : Oper} {ρ ρ' : Operand → AV} (h : ∀ x ∈ o.op.operands, ρ x = ρ' x) : effOp C o ρ = effOp C o ρ' := by
  obtain ⟨dst, op, type, pos, after, guard⟩ := o
  cases op <;> simp only [Op.operands] at h <;> simp only [effOp]
  case call c => rw [callTo_congr h]
theorem effR_congr (C : Cfg) (self : Run) {o : Oper} {ρ ρ' : Operand → AV} (hp : Heap) (n : Nat) (h : ∀ x ∈ o.op.operands, ρ x = ρ' x) : effR C self o ρ hp n = effR C self o ρ' hp n := by
  obtain ⟨dst, op, type, pos, after, guard⟩ := o
  cases op <;> simp only [Op.operands] at h <;> simp only [effR]
  case store t a x => rw [h a (by simp), h x (by simp)]
  case mapUpdate t m k x => rw [h m (by simp), h k (by simp), h x (by simp)]
  case insert t m k x => rw [h m (by simp), h k (by simp), h x (by simp)]
  case call c =>
    rw [callTo_congr h]
    have hargs : ∀ x ∈ c.args.toList, ρ x = ρ' x := fun x hx => h x (by simp [Call.operands, Array.mem_toList_iff.1 hx])
    split
    · split
      · rename_i s x t t2 ha _
        rw [ha] at hargs
        rw [hargs s (by simp), hargs x (by simp)]
      · rfl
    · split
      · rename_i m k t ts ha _
        rw [ha] at hargs
        rw [hargs m (by simp), hargs k (by simp)]
      · rfl
    · rfl
    · rfl
theorem resR_congr (C : Cfg) {o : Oper} {ρ ρ' : Operand → AV} (hp : Heap) (n : Nat) (h : ∀ x ∈ o.op.operands, ρ x = ρ' x) : resR C o ρ hp n = resR C o ρ' hp n := by
  unfold resR
  rw [resD_congr C _ _ h]
theorem drawR_congr (C : Cfg) (self : Run) (ops : Array Oper) (X ms : List Nat) (next i : Nat) {o : Oper} {ρ ρ' : Operand → AV} (hp : Heap) (n : Nat) (h : ∀ x ∈ o.op.operands, ρ x = ρ' x) :
    drawR C self ops X ms next i o ρ hp n = drawR C self ops X ms next i o ρ' hp n := by
  unfold drawR
  rw [effOp_congr C h, effR_congr C self hp n h, resR_congr C hp n h, resD_congr C _ _ h]
  split
  · split
    · rfl
    · split
      · rename_i t a x ho
        rw [h a (by simp [ho, Op.operands]), h x (by simp [ho, Op.operands])]
      · rename_i c ho
        split
        · rename_i s x t t2 hc ha _
          have hargs : ∀ x ∈ c.args.toList, ρ x = ρ' x := fun x hx => h x (by simp [ho, Op.operands, Call.operands, Array.mem_toList_iff.1 hx])
          rw [ha] at hargs
          rw [hargs s (by simp), hargs x (by simp)]
        · rfl
      · rfl
  · rfl

end Go.Fx
