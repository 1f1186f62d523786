/- How a row's arguments are opened: each type's cells are read as abstract values. -/
import Derived.Test.YtccfojgceohciaaFxX
import Derived.ChangeOld
import Derived.ProofKit
import Derived.OpenShut
import Derived.ShutString
import Derived.Below
import Derived.SizedLaws
namespace Go.Fx
open Go Go.RowKit

/-- What a type's cells are read as. -/
structure Opens (P : Program) (t : TypeId) (G : List AV → Prop) : Prop where
  run : ∀ {H : Type} (enc : TypeId × Value → H) (w : World) (fuel : Nat) (cs : List Value) (x : DataW H × List MemPlace),
    DataW.trod enc P w 0 (fun _ => true) true fuel t cs = some x → (∀ n ∈ x.1.weights P t, n ≤ reachBytes) → ∃ as, G as ∧ Reps w (fun _ => False) Env.none as cs

section
variable {P : Program} {t : TypeId}

theorem Opens.mono {G G' : List AV → Prop} (h : Opens P t G) (h' : ∀ as, G as → G' as) : Opens P t G' := ⟨fun enc w fuel cs x hx hw => by
  obtain ⟨as, h1, h2⟩ := h.run enc w fuel cs x hx hw
  exact ⟨as, h' as h1, h2⟩⟩

theorem Opens.int {k : IntKind} (ht : P.underlying t = some (.int k)) : Opens P t fun as => ∃ n, as = [.int k n] ∧ (Lit.int k n).wf = true := ⟨fun enc w fuel cs x hx _ => by
  obtain ⟨n, rfl, _, h⟩ := DataW.trod_int ht hx
  exact ⟨_, ⟨n, rfl, h⟩, .int _ _ .nil⟩⟩
theorem Opens.bool (ht : P.underlying t = some .bool) : Opens P t fun as => ∃ b, as = [.bool b] := ⟨fun enc w fuel cs x hx _ => by
  obtain ⟨n, rfl, _⟩ := DataW.trod_bool ht hx
  exact ⟨_, ⟨n, rfl⟩, .bool _ .nil⟩⟩
theorem Opens.str (ht : P.underlying t = some .string) : Opens P t fun as => ∃ s : List UInt8, as = [.str s] ∧ s.length ≤ reachBytes := ⟨fun enc w fuel cs x hx hw => by
  obtain ⟨s, rfl, rfl, _⟩ := DataW.trod_string ht hx
  exact ⟨_, ⟨_, rfl, hw _ (by simp [DataW.weights])⟩, .str _ .nil⟩⟩

theorem weights_all_mem {H : Type} {e : TypeId} : ∀ {ds : List (DataW H)} {i : Nat} {d : DataW H}, ds[i]? = some d → ∀ n ∈ d.weights P e, n ∈ DataW.weightsAll P e ds
  | [], _, _, h => by simp at h
  | d0 :: ds, 0, d, h => by
    simp only [List.getElem?_cons_zero, Option.some.injEq] at h
    subst h
    intro n hn
    simp only [DataW.weightsAll, List.mem_append]
    exact .inl hn
  | d0 :: ds, i + 1, d, h => by
    simp only [List.getElem?_cons_succ] at h
    intro n hn
    simp only [DataW.weightsAll, List.mem_append]
    exact .inr (weights_all_mem h n hn)

theorem cells_map {α β : Type} {f : α → β} {l : List α} {i : Nat} {x : α} (h : l[i]? = some x) : (l.map f)[i]? = some (f x) := by simp [h]

theorem Opens.slice {e : TypeId} {G : List AV → Prop} (r : RTy) {ok : r.carrier → Prop} (ht : P.underlying t = some (.slice e)) (he : Opens P e G) (hr : ∀ as, G as → ∃ x : r.carrier, as = r.enc x ∧ ok x) (hs : P.cellsOf e = r.size) (hp : 0 < r.size) :
    Opens P t fun as => ∃ xs : List r.carrier, as = [.view r xs] ∧ xs.length * P.bytesOf e ≤ reachBytes ∧ ∀ x ∈ xs, ok x := ⟨fun enc w fuel cs x hx hw => by
  rcases DataW.trod_slice ht hx with ⟨rfl, rfl⟩ | ⟨a, len, cap, elems, rest, n, rfl, rfl, rfl, _, hlc, _, hel, hget, _⟩
  · exact ⟨_, ⟨[], rfl, by simp, by simp⟩, .view0 _ _ rfl _ _ .nil⟩
  · rw [hs] at hget
    have hwl : ∀ m ∈ (elems.length + rest.length) * P.bytesOf e :: (DataW.weightsAll P e (elems.map (·.1)) ++ DataW.weightsAll P e (rest.map (·.1))), m ≤ reachBytes := by
      intro m hm
      refine hw m ?_
      simp only [DataW.weights, ht, List.length_map]
      exact hm
    have each : ∀ i, i < len → ∃ (x : r.carrier) (us : List Value), ok x ∧ Reps w (fun _ => False) Env.none (r.enc x) us ∧ w.cells? 0 (a.add (i * r.size)) r.size = some us := by
      intro i hi
      have h1 := hget i hi
      have h2 : i < elems.length := by omega
      rw [List.getElem?_eq_getElem h2, Option.bind_eq_some_iff] at h1
      obtain ⟨us, h3, h4⟩ := h1
      obtain ⟨as, h5, h6⟩ := he.run enc w n us _ h4 (fun m hm => hwl m (List.mem_cons_of_mem _ (List.mem_append.2 (.inl (weights_all_mem (cells_map (List.getElem?_eq_getElem h2)) m hm)))))
      obtain ⟨x, rfl, h7⟩ := hr as h5
      exact ⟨x, us, h7, h6, h3⟩
    have build : ∀ k, k ≤ len → ∃ (xs : List r.carrier) (us : List Value), xs.length = k ∧ (∀ x ∈ xs, ok x) ∧ us.length = k * r.size ∧ Reps w (fun _ => False) Env.none (xs.flatMap r.enc) us ∧ ∀ j u, us[j]? = some u → w.cell? (a.add j) = some u := by
      intro k
      induction k with
      | zero => intro _; exact ⟨[], [], rfl, by simp, by simp, .nil, by simp⟩
      | succ k ih =>
        intro hk
        obtain ⟨xs, us, h1, h2, h3, h4, h5⟩ := ih (by omega)
        obtain ⟨x, vs, h6, h7, h8⟩ := each k (by omega)
        obtain ⟨_, hl, hc⟩ := World.cells?_some h8
        refine ⟨xs ++ [x], us ++ vs, by simp [h1], ?_, ?_, ?_, ?_⟩
        · intro y hy
          rcases List.mem_append.1 hy with hy | hy
          · exact h2 y hy
          · simp at hy; subst hy; exact h6
        · rw [List.length_append, h3, hl, Nat.succ_mul]
        · rw [List.flatMap_append]
          simpa using h4.app h7
        · intro j u hj
          rcases Nat.lt_or_ge j us.length with hlt | hge
          · rw [List.getElem?_append_left hlt] at hj; exact h5 j u hj
          · rw [List.getElem?_append_right hge] at hj
            have hlt : j - us.length < r.size := by
              have := (List.getElem?_eq_some_iff.1 hj).1
              omega
            have := hc (j - us.length) hlt
            rw [hj] at this
            rw [← this]
            congr 1
            unfold Addr.add
            by_cases hj0 : j = 0
            · have hk0 : k * r.size = 0 := by omega
              simp [hj0, hk0]
            · by_cases hk0 : k * r.size = 0
              · have : us.length = 0 := by omega
                simp [hj0, hk0, this]
              · by_cases hz : j - us.length = 0
                · simp [hj0, hk0, hz]; omega
                · simp [hj0, hk0, hz]; omega
    obtain ⟨xs, us, h1, h2, h3, h4, h5⟩ := build len (Nat.le_refl _)
    have hb : xs.length * P.bytesOf e ≤ reachBytes := by
      have := hwl _ (List.mem_cons_self)
      rw [hel] at this
      refine Nat.le_trans (Nat.mul_le_mul_right _ ?_) this
      omega
    refine ⟨_, ⟨xs, rfl, hb, h2⟩, ?_⟩
    subst h1
    by_cases h0 : xs.length = 0
    · have hx0 : xs = [] := List.eq_nil_of_length_eq_zero h0
      rw [h0]
      exact .view0 _ _ hx0 _ _ .nil
    · obtain ⟨b, off, spot⟩ := a
      have hlt : 0 < us.length := by rw [h3]; exact Nat.mul_pos (by omega) hp
      have h6 := h5 0 _ (List.getElem?_eq_getElem hlt)
      have hsp : spot = none := by simpa [Addr.add] using World.cell?_spot h6
      subst hsp
      have hblk : b < w.heap.size := by
        have : w.cell? ⟨b, off, none⟩ = some us[0] := by simpa [Addr.add] using h6
        rcases Nat.lt_or_ge b w.heap.size with h | h
        · exact h
        · simp [World.cell?, Array.getElem?_eq_none h] at this
      refine .view r xs cap hlc ⟨hblk, fun h => h, fun ⟨_, _, _, h⟩ => by simp [Env.none] at h⟩ (fun j u hj => ?_) h4 .nil
      have := h5 j u hj
      rw [← this]
      unfold Addr.add
      by_cases hj0 : j = 0
      · simp [hj0]
      · simp [hj0]⟩

/-- Fields, one behind the other, from a place on. -/
inductive OpenFs (P : Program) : List Field → Nat → (List AV → Prop) → Prop
  | nil (off : Nat) : OpenFs P [] off fun as => as = []
  | cons {f : Field} {fs : List Field} {off : Nat} {G Gs : List AV → Prop} (h : Opens P f.type G) (ho : f.offset = off) (hs : OpenFs P fs (off + P.cellsOf f.type) Gs) :
      OpenFs P (f :: fs) off fun as => ∃ a b, as = a ++ b ∧ G a ∧ Gs b
theorem OpenFs.open {H : Type} (enc : TypeId × Value → H) (w : World) (fuel : Nat) (cs : List Value) {fs : List Field} {off : Nat} {G : List AV → Prop} (h : OpenFs P fs off G) :
    ∀ xs : List (DataW H × List MemPlace), xs.length = fs.length → (∀ (i : Nat) (f : Field), fs[i]? = some f → DataW.trod enc P w 0 (fun _ => true) true fuel f.type ((cs.drop f.offset).take (P.cellsOf f.type)) = xs[i]?) →
      (∀ n ∈ DataW.weightsEach P (fs.map (·.type)) (xs.map (·.1)), n ≤ reachBytes) → cs.length ≤ off + (fs.map fun f : Field => P.cellsOf f.type).sum → ∃ as, G as ∧ Reps w (fun _ => False) Env.none as (cs.drop off) := by
  induction h with
  | nil off =>
    intro xs _ _ _ hl
    refine ⟨[], rfl, ?_⟩
    rw [List.drop_eq_nil_of_le (by simpa using hl)]
    exact .nil
  | @cons f fs off G Gs h ho hs ih =>
    intro xs hx hg hw hl
    cases xs with
    | nil => simp at hx
    | cons x xs =>
      have h0 := hg 0 f rfl
      simp only [List.getElem?_cons_zero, ho] at h0
      simp only [List.map_cons, DataW.weightsEach, List.mem_append] at hw
      obtain ⟨a, ha, hra⟩ := h.run enc w fuel _ x h0 (fun m hm => hw m (.inl hm))
      obtain ⟨b, hb, hrb⟩ := ih xs (by simpa using hx) (fun i f' hf => by simpa using hg (i + 1) f' (by simpa using hf)) (fun m hm => hw m (.inr hm)) (by simp only [List.map_cons, List.sum_cons] at hl; omega)
      refine ⟨a ++ b, ⟨a, b, rfl, ha, hb⟩, ?_⟩
      have := hra.app hrb
      rwa [← List.drop_drop, List.take_append_drop] at this
theorem Opens.struct {fs : Array Field} {G : List AV → Prop} (ht : P.underlying t = some (.struct fs)) (h : OpenFs P fs.toList 0 G) (hs : (fs.toList.map fun f : Field => P.cellsOf f.type).sum = P.cellsOf t) : Opens P t G := ⟨fun enc w fuel cs x hx hw => by
  obtain ⟨xs, n, rfl, rfl, hl, hxl, hg⟩ := DataW.trod_struct ht hx
  have := h.open enc w n cs xs (by simpa using hxl) (fun i f hf => hg i f (by simpa using hf)) (fun m hm => hw m (by simpa only [DataW.weights, ht] using hm)) (by omega)
  simpa using this⟩

end

/-- A value's abstract value, out of its cells'. -/
theorem reps_agg {w : World} {as : List AV} {v : Value} {cs : Array Value} (hv : v = .agg cs) (h : Reps w (fun _ => False) Env.none as v.cells.toList) : Reps w (fun _ => False) Env.none [.agg as] [v] := by
  subst hv
  have := Reps.agg h (.nil (w := w) (S := fun _ => False) (φ := Env.none))
  simpa [Value.cells] using this

/-- A law's call, by its contract. -/
theorem law_calls {P : Program} {g : Nat} {con : Con} (V : ValidCon P g con) {args : List AV} {vals : List Value} {W : World} {bs : List Blk} (h : (con args).Out (.bool true, bs)) (hr : Reps W (fun _ => False) Env.none args vals) :
    Calls P g vals.toArray W fun e W' => e = .returned (.bool true) ∧ Below W.heap.size W W' := by
  refine (V.2 args _ h W (fun _ => False) vals (fun _ hB => hB.elim) hr).mono ?_
  rintro e W' ⟨x, ψ, rfl, hp⟩
  have hv := hp.val
  cases hv
  exact ⟨rfl, hp.ext.below⟩

/-! ### contracts that say it in another way -/
theorem ValidCon.weaken {P : Program} {g : Nat} {c c' : Con} (V : ValidCon P g c) (h : ∀ args r, (c' args).Out r → ∃ v, AsArg v r.1 ∧ (c args).Out (v, r.2)) : ValidCon P g c' := by
  refine ⟨V.1, fun args r hr w S vals hS hv => ?_⟩
  obtain ⟨v, h1, h2⟩ := h args r hr
  refine (V.2 args _ h2 w S vals hS hv).mono ?_
  rintro e w' ⟨x, ψ, rfl, hp⟩
  exact ⟨x, ψ, rfl, ⟨hp.ext, h1.reps hp.val, hp.blks⟩⟩
def blkAt (bs : List Blk) (id : Nat) : Option Blk := bs[id]?
/-- What is made is handed on as what is there. -/
def frozen (c : Con) : Con := fun args => (c args).bind fun r => match lowerV (blkAt r.2) 24 r.1 with | some v => .ret (v, []) | none => .fail
theorem ValidCon.frozen {P : Program} {g : Nat} {c : Con} (V : ValidCon P g c) : ValidCon P g (frozen c) := by
  refine ⟨V.1, fun args r hr w S vals hS hv => ?_⟩
  have hr' : ((Fx.frozen c) args).wp (fun x => x = r) := Tree.wp_of_out hr rfl
  unfold Fx.frozen at hr'
  rw [Tree.wp_bind] at hr'
  obtain ⟨r0, h1, h2⟩ := Tree.wp_out.1 hr'
  split at h2
  · rename_i v hv2
    have h3 : (v, []) = r := h2
    subst h3
    refine (V.2 args _ h1 w S vals hS hv).mono ?_
    rintro e w' ⟨x, ψ, rfl, hp⟩
    have hdom : ∀ id s, ψ id = some s → id < r0.2.length := by
      intro id s hs
      rcases Nat.lt_or_ge id r0.2.length with h' | h'
      · exact h'
      · rw [hp.ext.same id (by omega)] at hs; cases hs
    refine ⟨x, Env.none, rfl, ⟨⟨hp.ext.below, fun _ _ => rfl, fun _ _ _ h => absurd h (by simp), fun _ _ _ _ _ _ h => absurd h (by simp)⟩, ?_, fun j blk hj => by simp at hj⟩⟩
    refine (lower_reps (look := blkAt r0.2) (fun b blk hb => ?_) (fun B ho hs => ?_) 24).1 _ _ _ hv2 hp.val
    · have := hp.blks b blk hb
      rwa [Nat.zero_add] at this
    · obtain ⟨id, cap, len, hid⟩ := ho
      have h5 := hp.ext.new id _ (Nat.zero_le _) (by have := hdom id _ hid; omega) hid B rfl
      have h6 := hS B hs
      omega
  · exact h2.elim

/-! ### helpers for results -/
theorem AsArg.toLit {k : IntKind} {n m : Int} (h : n = m) : AsArg (.int k n) (.lit k m) := ⟨fun hr => by subst h; cases hr; exact .lit _ _ .nil⟩
theorem AsArg.trans {a b c : AV} (h : AsArg a b) (h' : AsArg b c) : AsArg a c := ⟨fun hr => h'.reps (h.reps hr)⟩
theorem AsArg.boolLit {b c : Bool} (h : b = c) : AsArg (.bool b) (.blit c) := ⟨fun hr => by subst h; cases hr; exact .blit _ .nil⟩
/-- Down a tree's ways. -/
def nav0 {α : Type} : List Nat → Tree α → Tree α
  | [], t => t
  | _ :: l, .asrt _ t => nav0 l t
  | n :: l, .ite _ a b => bif Nat.beq n 1 then nav0 l a else nav0 l b
  | _, t => t
/-- Comes to what stands for this. -/
def Rez (t : Tree (AV × List Blk)) (r : AV × List Blk) : Prop := ∃ v, AsArg v r.1 ∧ t.Out (v, r.2)
theorem Rez.itet {c : Bool} {t e : Tree (AV × List Blk)} {r : AV × List Blk} (h : c = true) (h1 : Rez t r) : Rez (.ite c t e) r := by
  obtain ⟨v, h3, h4⟩ := h1; exact ⟨v, h3, (Tree.out_ite_true h).2 h4⟩
theorem Rez.itee {c : Bool} {t e : Tree (AV × List Blk)} {r : AV × List Blk} (h : c = false) (h1 : Rez e r) : Rez (.ite c t e) r := by
  obtain ⟨v, h3, h4⟩ := h1; exact ⟨v, h3, (Tree.out_ite_false h).2 h4⟩
theorem Rez.asrt {p : Prop} {t : Tree (AV × List Blk)} {r : AV × List Blk} (h : p) (h1 : Rez t r) : Rez (.asrt p t) r := by
  obtain ⟨v, h3, h4⟩ := h1; exact ⟨v, h3, h, h4⟩
theorem Rez.ret {a r : AV × List Blk} (h : AsArg a.1 r.1) (h2 : a.2 = r.2) : Rez (.ret a) r := ⟨a.1, h, by rw [← h2]; rfl⟩
theorem Rez.to {t : Tree (AV × List Blk)} {r r' : AV × List Blk} (h : Rez t r) (e : r' = r) : Rez t r' := e ▸ h
/-- A law's contract: where its arguments are good, it is so. -/
def lawCon (Good : List AV → Prop) : Con := fun args => .asrt (Good args) (.ret (.bool true, []))
theorem lawCon_valid {C : Cfg} (G : GoodCfg C) {g n : Nat} {Good : List AV → Prop} (he : entersB C.P g = true) (h : ∀ args, Good args → ∃ v bs, AsArg v (.bool true) ∧ Gets (callC C n g args) (v, bs) ∧ bs = []) : ValidCon C.P g (lawCon Good) := by
  refine con_of (n := n) G he fun args r hr => ?_
  obtain ⟨h1, h2⟩ := hr
  cases h2
  obtain ⟨v, bs, h3, h4, rfl⟩ := h args h1
  exact ⟨args, v, AsArgs.refl _, h3, h4⟩
/-- A tree that comes to true. -/
def Tru (t : Tree (AV × List Blk)) : Prop := Rez t (.bool true, [])
theorem lawCon_of {C : Cfg} (G : GoodCfg C) {g n : Nat} {Good : List AV → Prop} (he : entersB C.P g = true) (h : ∀ args, Good args → ∃ t, callC C n g args = t ∧ Tru t) : ValidCon C.P g (lawCon Good) :=
  lawCon_valid G he fun args ha => by
    obtain ⟨t, h1, v, h2, h3⟩ := h args ha
    exact ⟨v, [], h2, .of_eq h1 h3, rfl⟩
theorem Tru.yes : Tru (.ret (.blit true, [])) := ⟨_, .blit rfl, rfl⟩
theorem Tru.of {b : Bool} (h : b = true) : Tru (.ret (.bool b, [])) := by subst h; exact ⟨_, .refl _, rfl⟩
theorem Tru.ite {c : Bool} {t e : Tree (AV × List Blk)} (h1 : c = true → Tru t) (h2 : c = false → Tru e) : Tru (.ite c t e) := by
  cases c with
  | true => exact Rez.itet rfl (h1 rfl)
  | false => exact Rez.itee rfl (h2 rfl)
theorem Tru.asrt {p : Prop} {t : Tree (AV × List Blk)} (h : p) (h1 : Tru t) : Tru (.asrt p t) := Rez.asrt h h1

def wf64 (n : Int) : Prop := -9223372036854775808 ≤ n ∧ n ≤ 9223372036854775807
theorem zAs : AsArg (.lit .i64 0) (.int .i64 0) := .lit rfl

/-! ### arguments that are read -/
structure Dc (α : Type) where
  dec : AV → Option α
  enc : α → AV
  ok : ∀ v a, dec v = some a → AsArg v (enc a)
structure Ds (α : Type) where
  dec : List AV → Option α
  enc : α → List AV
  ok : ∀ l a, dec l = some a → AsArgs l (enc a)
def dI (k : IntKind) : Dc Int := ⟨AV.asIntK k, .int k, fun _ _ h => .ik h⟩
def dInt : Dc Int := dI .i64
def dBool : Dc Bool := ⟨AV.b, .bool, fun _ _ h => .bool h⟩
def dView (r : RTy) : Dc (List r.carrier) := ⟨AV.asView r, .view r, fun _ _ h => .view h⟩
def decAgg (r : RTy) : AV → Option r.carrier
  | .agg cs => r.dec cs
  | _ => none
theorem AsArg.row {r : RTy} {v : AV} {x : r.carrier} (h : decAgg r v = some x) : AsArg v (.agg (r.enc x)) := by
  unfold decAgg at h
  split at h
  · exact ⟨fun hr => by
      cases hr with
      | agg hr => exact .agg (dec_reps h hr) .nil⟩
  · cases h
def dRow (r : RTy) : Dc r.carrier := ⟨decAgg r, fun x => .agg (r.enc x), fun _ _ h => .row h⟩
/-- A function value that is known. -/
def decFn (f : Nat) : AV → Option Unit
  | .fn (.func g) [] [] => if g = f then some () else none
  | _ => none
def dFn (f : Nat) : Dc Unit := ⟨decFn f, fun _ => .fn (.func f) [] [], fun v a h => by
  unfold decFn at h
  split at h
  · split at h
    · rename_i g hg; subst hg; exact .refl _
    · cases h
  · cases h⟩
def Ds.none : Ds Unit := ⟨fun l => match l with | [] => some () | _ => Option.none, fun _ => [], fun l a h => by
  split at h
  · exact .nil
  · cases h⟩
def d1 {α : Type} (a : Dc α) : Ds α := ⟨fun l => match l with | [x] => a.dec x | _ => Option.none, fun x => [a.enc x], fun l x h => by
  split at h
  · exact .cons (a.ok _ _ h) .nil
  · cases h⟩
def dCons {α β : Type} (a : Dc α) (b : Ds β) : Ds (α × β) := ⟨fun l => match l with | x :: l => (match a.dec x, b.dec l with | some x, some y => some (x, y) | _, _ => Option.none) | [] => Option.none, fun x => a.enc x.1 :: b.enc x.2, fun l x h => by
  split at h
  · split at h
    · rename_i h1 h2; cases h; exact .cons (a.ok _ _ h1) (b.ok _ _ h2)
    · cases h
  · cases h⟩
def d2 {α β : Type} (a : Dc α) (b : Dc β) : Ds (α × β) := dCons a (d1 b)
def d3 {α β γ : Type} (a : Dc α) (b : Dc β) (c : Dc γ) : Ds (α × β × γ) := dCons a (d2 b c)
def d4 {α β γ δ : Type} (a : Dc α) (b : Dc β) (c : Dc γ) (d : Dc δ) : Ds (α × β × γ × δ) := dCons a (d3 b c d)
def d5 {α β γ δ ε : Type} (a : Dc α) (b : Dc β) (c : Dc γ) (d : Dc δ) (e : Dc ε) : Ds (α × β × γ × δ × ε) := dCons a (d4 b c d e)

/-- A contract: what comes of arguments that are read, under a condition. -/
def resCon {α : Type} (D : Ds α) (ok : α → Prop) (res : α → AV × List Blk) : Con := fun args => match D.dec args with | some a => .asrt (ok a) (.ret (res a)) | none => .fail
def flatCon {α : Type} (D : Ds α) (ok : α → Prop) (res : α → AV) : Con := resCon D ok fun a => (res a, [])
theorem flatCon_quiet {α : Type} {D : Ds α} {ok : α → Prop} {res : α → AV} : noBlks (flatCon D ok res) := by
  intro args r h
  unfold flatCon resCon at h
  split at h
  · cases h; rfl
  · exact h.elim
theorem resCon_valid {C : Cfg} (G : GoodCfg C) {g : Nat} (n : Nat) {α : Type} {D : Ds α} {ok : α → Prop} {res : α → AV × List Blk} (he : entersB C.P g = true) (h : ∀ a, ok a → ∃ t, callC C n g (D.enc a) = t ∧ Rez t (res a)) : ValidCon C.P g (resCon D ok res) := by
  refine con_of (n := n) G he fun args r hr => ?_
  unfold resCon at hr
  split at hr
  · rename_i a ha
    obtain ⟨h1, h2⟩ := hr
    cases h2
    obtain ⟨t, h3, v, h4, h5⟩ := h a h1
    exact ⟨_, v, D.ok _ _ ha, h4, .of_eq h3 h5⟩
  · exact hr.elim
theorem flatCon_valid {C : Cfg} (G : GoodCfg C) {g : Nat} (n : Nat) {α : Type} {D : Ds α} {ok : α → Prop} {res : α → AV} (he : entersB C.P g = true) (h : ∀ a, ok a → ∃ t, callC C n g (D.enc a) = t ∧ Rez t (res a, [])) : ValidCon C.P g (flatCon D ok res) :=
  resCon_valid G n he h
/-- So where what is made is handed on as what is there. -/
theorem frozenCon_valid {C : Cfg} (G : GoodCfg C) {g : Nat} (n : Nat) {α : Type} {D : Ds α} {ok : α → Prop} {res : α → AV} (he : entersB C.P g = true) (h : ∀ a, ok a → ∃ t, frozen (callC C n g) (D.enc a) = t ∧ Rez t (res a, [])) : ValidCon C.P g (flatCon D ok res) := by
  have V : ValidCon C.P g (frozen (callC C n g)) := ValidCon.frozen (con_of_call G (enters_of he) fun args r hr => ⟨args, hr, fun _ _ _ _ hv => hv⟩)
  refine ⟨V.1, fun args r hr w S vals hS hv => ?_⟩
  unfold flatCon resCon at hr
  split at hr
  · rename_i a ha
    obtain ⟨h1, h2⟩ := hr
    cases h2
    obtain ⟨t, h3, v, h4, h5⟩ := h a h1
    refine (V.2 (D.enc a) (v, []) (h3 ▸ h5) w S vals hS ((D.ok _ _ ha).reps hv)).mono ?_
    rintro e w' ⟨x, ψ, rfl, hp⟩
    exact ⟨x, ψ, rfl, ⟨hp.ext, h4.reps hp.val, hp.blks⟩⟩
  · exact hr.elim

/-- Without a condition. -/
def plainCon {α : Type} (D : Ds α) (res : α → AV) : Con := fun args => match D.dec args with | some a => .ret (res a, []) | none => .fail
theorem plainCon_quiet {α : Type} {D : Ds α} {res : α → AV} : noBlks (plainCon D res) := by
  intro args r h
  unfold plainCon at h
  split at h
  · cases h; rfl
  · exact h.elim
theorem plainCon_of {P : Program} {g : Nat} {α : Type} {D : Ds α} {res : α → AV} (V : ValidCon P g (flatCon D (fun _ => True) res)) : ValidCon P g (plainCon D res) := V.weaken fun args r h => by
  unfold plainCon at h
  unfold flatCon resCon
  split at h
  · rename_i a ha
    exact ⟨r.1, .refl _, trivial, by cases h; rfl⟩
  · exact h.elim
theorem plainCon_valid {C : Cfg} (G : GoodCfg C) {g : Nat} (n : Nat) {α : Type} {D : Ds α} {res : α → AV} (he : entersB C.P g = true) (h : ∀ a, ∃ t, callC C n g (D.enc a) = t ∧ Rez t (res a, [])) : ValidCon C.P g (plainCon D res) :=
  plainCon_of (flatCon_valid G n he fun a _ => h a)
theorem frozenPlain_valid {C : Cfg} (G : GoodCfg C) {g : Nat} (n : Nat) {α : Type} {D : Ds α} {res : α → AV} (he : entersB C.P g = true) (h : ∀ a, ∃ t, frozen (callC C n g) (D.enc a) = t ∧ Rez t (res a, [])) : ValidCon C.P g (plainCon D res) :=
  plainCon_of (frozenCon_valid G n he fun a _ => h a)

/-! ### a slice of the call's own, or none -/
theorem nil_own_post {w w' : World} {S : Nat → Prop} {v v' : AV} {x : Value} {ψ : Env} (r : RTy) (e : TypeId) (hp : ResPost w S Env.none 0 v [] x w' ψ) (hv : ∀ ψ', Mono w' S ψ w' S ψ' → (∃ s, ψ' 0 = some s ∧ s = ⟨true, none, 0, 0⟩) → Reps w' S ψ' [v'] [x]) :
    ∃ ψ', ResPost w S Env.none 0 v' [.rows r e []] x w' ψ' := by
  have hψ : ∀ id, ψ id = none := fun id => hp.ext.same id (by simp)
  let ψ' : Env := fun id => if id = 0 then some ⟨true, none, 0, 0⟩ else none
  have h0 : ψ' 0 = some ⟨true, none, 0, 0⟩ := rfl
  have hn : ∀ B, ¬ Own ψ' B := by
    rintro B ⟨id, c, l, h⟩
    simp only [ψ'] at h
    split at h
    · cases h
    · cases h
  refine ⟨ψ', ⟨hp.ext.below, fun id hid => ?_, fun id s h1 h2 h3 B hB => ?_, fun id id' s s' B h1 h2 h3 h4 h5 h6 h7 h8 h9 h10 => ?_⟩, hv ψ' ⟨fun b s hb => ?_, fun B hB => ?_⟩ ⟨_, h0, rfl⟩, fun j blk hj => ?_⟩
  · have : id ≠ 0 := by simp at hid; omega
    simp [ψ', this, Env.none]
  · have : id = 0 := by simp at h2; omega
    subst this
    rw [h0] at h3
    cases h3
    cases hB
  · simp at h2 h4; omega
  · rw [hψ b] at hb; cases hb
  · refine ⟨⟨hB.1, hB.2.1, hn B⟩, rfl⟩
  · cases j with
    | succ j => simp at hj
    | zero =>
      simp at hj
      subst hj
      exact ⟨none, 0, 0, h0, rfl, [], ⟨by simp, .inl ⟨rfl, rfl⟩⟩, .nil, by simp⟩
/-- A contract that says of the nil slice that it is the call's own, without elements. -/
theorem ValidCon.orNil {P : Program} {g : Nat} {c c' : Con} (V : ValidCon P g c)
    (h : ∀ args r, (c' args).Out r → (∃ v, AsArg v r.1 ∧ (c args).Out (v, r.2)) ∨ (∃ bs bs' rt e, AsArgs bs bs' ∧ r = (.tup (.own 0 :: bs'), [.rows rt e []]) ∧ (c args).Out (.tup (.nils :: bs), [])) ∨
      (∃ rt e, r = (.own 0, [.rows rt e []]) ∧ (c args).Out (.nils, []))) : ValidCon P g c' := by
  refine ⟨V.1, fun args r hr w S vals hS hv => ?_⟩
  rcases h args r hr with ⟨v, h1, h2⟩ | ⟨bs, bs', rt, e, h1, rfl, h2⟩ | ⟨rt, e, rfl, h2⟩
  · refine (V.2 args _ h2 w S vals hS hv).mono ?_
    rintro e w' ⟨x, ψ, rfl, hp⟩
    exact ⟨x, ψ, rfl, ⟨hp.ext, h1.reps hp.val, hp.blks⟩⟩
  · refine (V.2 args _ h2 w S vals hS hv).mono ?_
    rintro e' w' ⟨x, ψ, rfl, hp⟩
    have hval := hp.val
    cases hval with
    | tup hr _ =>
      cases hr with
      | nils a hr =>
        obtain ⟨ψ', hp'⟩ := nil_own_post rt e hp (v' := .tup (.own 0 :: bs')) fun ψ' m ⟨s, hs1, hs2⟩ => by
          subst hs2
          exact .tup (.own ⟨_, hs1, ⟨a, rfl⟩⟩ (h1.reps (hr.mono m))) .nil
        exact ⟨_, ψ', rfl, hp'⟩
  · refine (V.2 args _ h2 w S vals hS hv).mono ?_
    rintro e' w' ⟨x, ψ, rfl, hp⟩
    have hval := hp.val
    cases hval with
    | nils a _ =>
      obtain ⟨ψ', hp'⟩ := nil_own_post rt e hp (v' := .own 0) fun ψ' m ⟨s, hs1, hs2⟩ => by
        subst hs2
        exact .own ⟨_, hs1, ⟨a, rfl⟩⟩ .nil
      exact ⟨_, ψ', rfl, hp'⟩

/-- So where the arguments are taken for others first. -/
theorem AsArgs.trans {as bs cs : List AV} (h : AsArgs as bs) (h' : AsArgs bs cs) : AsArgs as cs := by
  induction h generalizing cs with
  | nil => exact h'
  | cons h _ ih =>
    cases h' with
    | cons h1 h2 => exact .cons (h.trans h1) (ih h2)
theorem resCon_validA {C : Cfg} (G : GoodCfg C) {g : Nat} (n : Nat) {α : Type} {D : Ds α} {ok : α → Prop} {res : α → AV × List Blk} (he : entersB C.P g = true) (h : ∀ a, ok a → ∃ args t, AsArgs (D.enc a) args ∧ callC C n g args = t ∧ Rez t (res a)) : ValidCon C.P g (resCon D ok res) := by
  refine con_of (n := n) G he fun args r hr => ?_
  unfold resCon at hr
  split at hr
  · rename_i a ha
    obtain ⟨h1, h2⟩ := hr
    cases h2
    obtain ⟨args', t, h0, h3, v, h4, h5⟩ := h a h1
    exact ⟨_, v, (D.ok _ _ ha).trans h0, h4, .of_eq h3 h5⟩
  · exact hr.elim
theorem plainCon_validA {C : Cfg} (G : GoodCfg C) {g : Nat} (n : Nat) {α : Type} {D : Ds α} {res : α → AV} (he : entersB C.P g = true) (h : ∀ a, ∃ args t, AsArgs (D.enc a) args ∧ callC C n g args = t ∧ Rez t (res a, [])) : ValidCon C.P g (plainCon D res) :=
  plainCon_of (resCon_validA G n he fun a _ => h a)

end Go.Fx
