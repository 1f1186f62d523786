/- Blocks under other numbers. -/
import Derived.Test.YtccfojgceohciaaFxT
namespace Go.Fx
open Go Go.RowKit

mutual
def AV.ren (f : Nat → Option Nat) : AV → AV
  | .ptr b off => match f b with | some c => .ptr c off | none => .any
  | .rptr b r i off => match f b with | some c => .rptr c r i off | none => .any
  | .own b => match f b with | some c => .own c | none => .any
  | .slc b off n sz => match f b with | some c => .slc c off n sz | none => .any
  | .map b => match f b with | some c => .map c | none => .any
  | .fn g a b => .fn g (AV.renL f a) (AV.renL f b)
  | .iface t v => .iface t (v.ren f)
  | .agg cs => .agg (AV.renL f cs)
  | .tup cs => .tup (AV.renL f cs)
  | .pv cs => .pv (AV.renL f cs)
  | .lv n cs => .lv n (AV.renL f cs)
  | v => v
def AV.renL (f : Nat → Option Nat) : List AV → List AV
  | [] => []
  | a :: l => a.ren f :: AV.renL f l
end
def renE (f : Nat → Option Nat) : List (AV × AV) → List (AV × AV)
  | [] => []
  | (k, v) :: l => (k, v.ren f) :: renE f l
def Blk.ren (f : Nat → Option Nat) : Blk → Blk
  | .cells cs => .cells (AV.renL f cs)
  | .lmap es => .lmap (renE f es)
  | b => b
def Heap.ren (f : Nat → Option Nat) : Heap → Heap
  | [] => []
  | (b, x) :: h => match f b with | some c => (c, x.ren f) :: Heap.ren f h | none => Heap.ren f h

section
variable {w0 w : World} {S : Nat → Prop} {φ φ2 : Env} {f : Nat → Option Nat}

theorem enc_ren : ∀ (r : RTy) (x : r.carrier), AV.renL f (r.enc x) = r.enc x
  | .int _, _ => rfl
  | .bool, _ => rfl
  | .str, _ => rfl
  | .ints _, _ => rfl
  | .spec, _ => rfl
  | .spr, _ => rfl
  | .fix, _ => rfl
  | .item, _ => rfl
  | .live, _ => rfl
  | .ape, _ => rfl
  | .opt, _ => rfl
  | .task, _ => rfl
  | .aim, _ => rfl
theorem renL_app : ∀ (as bs : List AV), AV.renL f (as ++ bs) = AV.renL f as ++ AV.renL f bs
  | [], bs => by simp [AV.renL]
  | a :: as, bs => by simp [AV.renL, renL_app as bs]
theorem flatMap_ren (r : RTy) : ∀ xs : List r.carrier, AV.renL f (xs.flatMap r.enc) = xs.flatMap r.enc
  | [] => rfl
  | x :: xs => by simp [List.flatMap_cons, renL_app, enc_ren, flatMap_ren r xs]
theorem renL_map : ∀ l : List AV, AV.renL f l = l.map (AV.ren f)
  | [] => rfl
  | a :: l => by simp [AV.renL, renL_map l]

theorem ren_reps (hd : ∀ b c, f b = some c → φ2 c = φ b) (hst : ∀ B, Stab w S φ B → Stab w S φ2 B) {as : List AV} {vs : List Value} (h : Reps w S φ as vs) : Reps w S φ2 (AV.renL f as) vs := by
  induction h with
  | nil => exact .nil
  | any _ _ ih => exact .any _ ih
  | lit _ _ _ ih => exact .lit _ _ ih
  | int _ _ _ ih => exact .int _ _ ih
  | blit _ _ ih => exact .blit _ ih
  | bool _ _ ih => exact .bool _ ih
  | str _ _ ih => exact .str _ ih
  | nilp _ ih => exact .nilp ih
  | @ptr as vs b off v h _ ih =>
    simp only [AV.renL, AV.ren]
    cases hf : f b with
    | none => exact .any _ ih
    | some c => obtain ⟨s, B, h1, h2⟩ := h; exact .ptr ⟨s, B, by rw [hd b c hf]; exact h1, h2⟩ ih
  | @rptr as vs b r i off v h _ ih =>
    simp only [AV.renL, AV.ren]
    cases hf : f b with
    | none => exact .any _ ih
    | some c => obtain ⟨s, B, h1, h2⟩ := h; exact .rptr ⟨s, B, by rw [hd b c hf]; exact h1, h2⟩ ih
  | pv hs hc _ _ ih1 ih2 => exact .pv (hst _ hs) hc ih1 ih2
  | nils _ _ ih => exact .nils _ ih
  | @own as vs b v h _ ih =>
    simp only [AV.renL, AV.ren]
    cases hf : f b with
    | none => exact .any _ ih
    | some c => obtain ⟨s, h1, h2⟩ := h; exact .own ⟨s, by rw [hd b c hf]; exact h1, h2⟩ ih
  | @slc as vs b off n sz v h _ ih =>
    simp only [AV.renL, AV.ren]
    cases hf : f b with
    | none => exact .any _ ih
    | some c => obtain ⟨s, B, c', h1, h2⟩ := h; exact .slc ⟨s, B, c', by rw [hd b c hf]; exact h1, h2⟩ ih
  | view0 _ _ hx _ _ _ ih => exact .view0 _ _ hx _ _ ih
  | view r xs _ hc0 hs hc _ _ ih1 ih2 =>
    rw [flatMap_ren] at ih1
    exact .view _ _ _ hc0 (hst _ hs) hc ih1 ih2
  | lv0 _ _ _ ih => exact .lv0 _ _ ih
  | lv _ _ hc0 hs hc _ _ ih1 ih2 => exact .lv _ _ hc0 (hst _ hs) hc ih1 ih2
  | fn _ _ _ _ ih1 ih2 ih3 => exact .fn _ ih1 ih2 ih3
  | nilfn _ ih => exact .nilfn ih
  | iface _ _ _ ih1 ih2 => exact .iface _ ih1 ih2
  | niliface _ ih => exact .niliface ih
  | @map as vs b v h _ ih =>
    simp only [AV.renL, AV.ren]
    cases hf : f b with
    | none => exact .any _ ih
    | some c => obtain ⟨s, B, h1, h2⟩ := h; exact .map ⟨s, B, by rw [hd b c hf]; exact h1, h2⟩ ih
  | nilmap _ ih => exact .nilmap ih
  | agg _ _ ih1 ih2 => exact .agg ih1 ih2
  | tup _ _ ih1 ih2 => exact .tup ih1 ih2

theorem ren_blk (hd : ∀ b c, f b = some c → φ2 c = φ b) (hst : ∀ B, Stab w S φ B → Stab w S φ2 B) {B : Option Nat} {cap len : Nat} {blk : Blk} (h : BlkRep w S φ B cap len blk) : BlkRep w S φ2 B cap len (blk.ren f) := by
  have renr : ∀ {r : RTy} {xs : List r.carrier} {us : List Value}, Reps w S φ (xs.flatMap r.enc) us → Reps w S φ2 (xs.flatMap r.enc) us := by
    intro r xs us h
    have := ren_reps hd hst h
    rwa [flatMap_ren] at this
  have rene : ∀ {r : RTy} {x : r.carrier} {us : List Value}, Reps w S φ (r.enc x) us → Reps w S φ2 (r.enc x) us := by
    intro r x us h
    have := ren_reps hd hst h
    rwa [enc_ren] at this
  cases blk with
  | cells cs =>
    obtain ⟨B', us, e, rfl, h1, h2, h3⟩ := h
    exact ⟨B', us, e, rfl, h1, h2, ren_reps hd hst h3⟩
  | rows r e xs =>
    obtain ⟨h1, us, h2, h3, h4⟩ := h
    exact ⟨h1, us, h2, renr h3, h4⟩
  | imap r es =>
    obtain ⟨B', ms, clock, rfl, h1, h2⟩ := h
    refine ⟨B', ms, clock, rfl, h1, ?_⟩
    have key : ∀ {es : List (Int × r.carrier)} {ms : List MapEntry}, IMapRep w S φ r es ms → IMapRep w S φ2 r es ms := by
      intro es
      induction es with
      | nil => intro ms h; cases ms <;> exact h
      | cons p es ih =>
        intro ms h
        obtain ⟨k, x⟩ := p
        cases ms with
        | nil => exact h
        | cons m ms =>
          obtain ⟨h1, h2, h3⟩ := h
          refine ⟨h1, ?_, ih h3⟩
          unfold ValRep at h2 ⊢
          split at h2
          · obtain ⟨us, hu, hr⟩ := h2; exact ⟨us, hu, rene hr⟩
          · exact ⟨rene h2.1, h2.2⟩
    exact key h2
  | lmap es =>
    obtain ⟨B', ms, clock, rfl, h1, h2⟩ := h
    refine ⟨B', ms, clock, rfl, h1, ?_⟩
    have key : ∀ {es : List (AV × AV)} {ms : List MapEntry}, LMapRep w S φ es ms → LMapRep w S φ2 (renE f es) ms := by
      intro es
      induction es with
      | nil => intro ms h; cases ms <;> exact h
      | cons p es ih =>
        intro ms h
        obtain ⟨k, x⟩ := p
        cases ms with
        | nil => exact h
        | cons m ms =>
          obtain ⟨h1, h2, h3⟩ := h
          refine ⟨h1, ?_, ih h3⟩
          have := ren_reps hd hst h2
          simpa [AV.renL] using this
    exact key h2

theorem get_ren (f : Nat → Option Nat) (c : Nat) (y : Blk) : ∀ h : Heap, (h.ren f).get c = some y → ∃ b x, h.get b = some x ∧ f b = some c ∧ y = x.ren f
  | [], h => by simp [Heap.ren, Heap.get] at h
  | (b, x) :: h, hg => by
    unfold Heap.ren at hg
    cases hf : f b with
    | none =>
      rw [hf] at hg
      obtain ⟨b', x', h1, h2, h3⟩ := get_ren f c y h hg
      refine ⟨b', x', ?_, h2, h3⟩
      rw [get_cons]
      split
      · rename_i e; subst e; rw [hf] at h2; cases h2
      · exact h1
    | some c' =>
      rw [hf] at hg
      simp only [get_cons] at hg
      split at hg
      · rename_i e
        subst e
        cases hg
        exact ⟨b, x, by simp [get_cons], hf, rfl⟩
      · rename_i e
        obtain ⟨b', x', h1, h2, h3⟩ := get_ren f c y h hg
        refine ⟨b', x', ?_, h2, h3⟩
        rw [get_cons]
        split
        · rename_i e'; subst e'; rw [hf] at h2; cases h2; exact absurd rfl e
        · exact h1

/-- Blocks under other numbers: what stands. -/
theorem RepH.ren {h : Heap} (R : RepH w0 S φ h w) (hd : ∀ b c, f b = some c → φ2 c = φ b) (ho : ∀ c s, φ2 c = some s → s.alive = true → ∃ b, f b = some c) :
    RepH w0 S φ2 (h.ren f) w ∧ ∀ B, Stab w S φ B → Stab w S φ2 B := by
  have own : ∀ B, Own φ2 B → Own φ B := by
    rintro B ⟨c, cap, len, hc⟩
    obtain ⟨b, hb⟩ := ho c _ hc rfl
    exact ⟨b, cap, len, by rw [← hd b c hb]; exact hc⟩
  have hst : ∀ B, Stab w S φ B → Stab w S φ2 B := fun B h => ⟨h.1, h.2.1, fun h' => h.2.2 (own B h')⟩
  refine ⟨⟨?_, ?_, fun B hB => R.rng B (own B hB), R.below, R.sb⟩, hst⟩
  · intro c y hc
    obtain ⟨b, x, h1, h2, rfl⟩ := get_ren f c y h hc
    obtain ⟨B, cap, len, h3, h4⟩ := R.heap b x h1
    exact ⟨B, cap, len, by rw [hd b c h2]; exact h3, ren_blk hd hst h4⟩
  · intro c c' B k n k' n' h1 h2
    obtain ⟨b, hb⟩ := ho c _ h1 rfl
    obtain ⟨b', hb'⟩ := ho c' _ h2 rfl
    have := R.inj b b' B k n k' n' (by rw [← hd b c hb]; exact h1) (by rw [← hd b' c' hb']; exact h2)
    subst this
    rw [hb] at hb'
    cases hb'
    rfl
end

/-! ### a call's result -/
def idxOf (b : Nat) : List Nat → Option Nat
  | [] => none
  | c :: l => bif Nat.beq c b then some 0 else (idxOf b l).map (· + 1)
theorem idxOf_spec {b i : Nat} : ∀ {l : List Nat}, idxOf b l = some i → l[i]? = some b
  | [], h => by cases h
  | c :: l, h => by
    unfold idxOf at h
    by_cases hc : c = b
    · subst hc
      rw [beq_self] at h
      cases h
      rfl
    · rw [beq_false hc] at h
      simp only [cond_false, Option.map_eq_some_iff] at h
      obtain ⟨j, h1, rfl⟩ := h
      simpa using idxOf_spec h1
theorem idxOf_mem {b i : Nat} : ∀ {l : List Nat}, l[i]? = some b → ∃ j, j ≤ i ∧ idxOf b l = some j
  | [], h => by simp at h
  | c :: l, h => by
    unfold idxOf
    by_cases hc : c = b
    · subst hc; rw [beq_self]; exact ⟨0, Nat.zero_le _, rfl⟩
    · rw [beq_false hc]
      cases i with
      | zero => simp at h; exact absurd h hc
      | succ i =>
        obtain ⟨j, h1, h2⟩ := idxOf_mem (i := i) (by simpa using h)
        exact ⟨j + 1, by omega, by simp [h2]⟩
def Heap.keys : Heap → List Nat
  | [] => []
  | (b, _) :: h => b :: Heap.keys h
def Heap.blks (f : Nat → Option Nat) : Heap → List Blk
  | [] => []
  | (_, x) :: h => x.ren f :: Heap.blks f h
def ascS : Heap → Bool
  | [] => true
  | (b, _) :: h => (Heap.keys h).all (Nat.blt b) && ascS h
/-- A call of a function: the result, and the blocks that it made, numbered from 0 on. -/
def callC (C : Cfg) (n g : Nat) (args : List AV) : Tree (AV × List Blk) :=
  (inlineX C (exec C n) g args [] 0).bind fun r =>
    let h := gcH 3 r.1.ids r.2.1
    if ascS h then .ret (r.1.ren (fun b => idxOf b h.keys), h.blks (fun b => idxOf b h.keys)) else .fail
/-- So by any way to run code. -/
def callR (C : Cfg) (self : Run) (g : Nat) (args : List AV) : Tree (AV × List Blk) :=
  (inlineX C self g args [] 0).bind fun r =>
    let h := gcH 3 r.1.ids r.2.1
    if ascS h then .ret (r.1.ren (fun b => idxOf b h.keys), h.blks (fun b => idxOf b h.keys)) else .fail

theorem keep_get (ids : List Nat) (b : Nat) (x : Blk) : ∀ h : Heap, (h.keep ids).get b = some x → h.get b = some x
  | [], h => h
  | (c, y) :: h, hg => by
    unfold Heap.keep at hg
    rw [get_cons]
    split at hg
    · rw [get_cons] at hg
      split
      · rename_i e; rw [if_pos e] at hg; exact hg
      · rename_i e; rw [if_neg e] at hg; exact keep_get ids b x h hg
    · rename_i hm
      have := keep_get ids b x h hg
      split
      · rename_i e
        subst e
        exfalso
        have : ∀ h : Heap, (h.keep ids).get c = some x → memNat c ids = true := by
          intro h
          induction h with
          | nil => intro h; cases h
          | cons p h ih =>
            obtain ⟨d, z⟩ := p
            intro hg
            unfold Heap.keep at hg
            split at hg
            · rename_i hm2
              rw [get_cons] at hg
              split at hg
              · rename_i e; subst e; exact hm2
              · exact ih hg
            · exact ih hg
        exact hm (this h hg)
      · exact this
theorem gcH_get : ∀ (n : Nat) (ids : List Nat) (h : Heap) (b : Nat) (x : Blk), (gcH n ids h).get b = some x → h.get b = some x
  | 0, ids, h, b, x, hg => keep_get ids b x h hg
  | n + 1, ids, h, b, x, hg => gcH_get n _ h b x hg

theorem keys_get : ∀ {h : Heap} {i : Nat} {b : Nat}, ascS h = true → h.keys[i]? = some b → ∀ f, ∃ x, h.get b = some x ∧ (h.blks f)[i]? = some (x.ren f)
  | [], _, _, _, h, _ => by simp [Heap.keys] at h
  | (c, y) :: h, i, b, hs, hk, f => by
    simp only [ascS, Bool.and_eq_true, List.all_eq_true] at hs
    cases i with
    | zero =>
      simp [Heap.keys] at hk
      subst hk
      exact ⟨y, by simp [get_cons], by simp [Heap.blks]⟩
    | succ i =>
      have hk' : (Heap.keys h)[i]? = some b := by simpa [Heap.keys] using hk
      obtain ⟨x, h1, h2⟩ := keys_get hs.2 hk' f
      refine ⟨x, ?_, by simpa [Heap.blks] using h2⟩
      have := hs.1 b (List.mem_of_getElem? hk')
      rw [blt_iff] at this
      have : c < b := by simpa using this
      rw [get_cons, if_neg (by omega)]
      exact h1
theorem blks_len (f : Nat → Option Nat) : ∀ h : Heap, (h.blks f).length = h.keys.length
  | [] => rfl
  | (_, _) :: h => by simp [Heap.blks, Heap.keys, blks_len f h]
theorem keys_inj : ∀ {h : Heap} {i j b : Nat}, ascS h = true → h.keys[i]? = some b → h.keys[j]? = some b → i = j
  | [], _, _, _, _, h, _ => by simp [Heap.keys] at h
  | (c, y) :: h, i, j, b, hs, h1, h2 => by
    simp only [ascS, Bool.and_eq_true, List.all_eq_true] at hs
    have gt : ∀ {k : Nat}, (Heap.keys h)[k]? = some b → c < b := by
      intro k hk
      have := hs.1 b (List.mem_of_getElem? hk)
      rw [blt_iff] at this
      simpa using this
    cases i with
    | zero =>
      simp [Heap.keys] at h1
      subst h1
      cases j with
      | zero => rfl
      | succ j => have := gt (k := j) (by simpa [Heap.keys] using h2); omega
    | succ i =>
      cases j with
      | zero =>
        simp [Heap.keys] at h2
        subst h2
        have := gt (k := i) (by simpa [Heap.keys] using h1); omega
      | succ j =>
        have := keys_inj (i := i) (j := j) hs.2 (by simpa [Heap.keys] using h1) (by simpa [Heap.keys] using h2)
        omega

theorem RepH.empty {w : World} {S : Nat → Prop} (hS : ∀ B, S B → B < w.heap.size) : RepH w S Env.none [] w :=
  { heap := fun _ _ h => nomatch h
    inj := fun _ _ _ _ _ _ _ h => nomatch h
    rng := fun _ ⟨_, _, _, h⟩ => nomatch h
    below := Below.refl _ _
    sb := hS }

/-- A function that is carried out comes to what the executor says. -/
theorem con_of_run {C : Cfg} {self : Run} (hself : SoundRun C self) {g : Nat} {con : Con} (he : Enters C.P g) (h : ∀ args r, (con args).Out r → ∃ args', (callR C self g args').Out r ∧ ∀ w S φ vals, Reps w S φ args vals → Reps w S φ args' vals) : ValidCon C.P g con := by
  refine ⟨he, fun args r hr w S vals hS hv => ?_⟩
  obtain ⟨args', h1, h2⟩ := h args r hr
  have hv' := h2 w S Env.none vals hv
  obtain ⟨q, hq, hr'⟩ := Tree.out_bind.1 h1
  refine (inlineX_sound hself (RepH.empty hS) (fun _ _ => rfl) hv' (T := fun e w' => ∃ x ψ, e = .returned x ∧ ResPost w S Env.none 0 r.1 r.2 x w' ψ) (Tree.wp_of_out hq fun x w' φ' hp => ?_)).2
  simp only at hr'
  split at hr'
  · rename_i hasc
    cases hr'
    generalize hh : gcH 3 q.1.ids q.2.1 = hp' at hasc ⊢
    have hget : ∀ b x, hp'.get b = some x → q.2.1.get b = some x := by
      intro b x hb
      rw [← hh] at hb
      exact gcH_get _ _ _ _ _ hb
    let f : Nat → Option Nat := fun b => idxOf b hp'.keys
    let ψ : Env := fun c => (hp'.keys[c]?).bind φ'
    have hd : ∀ b c, f b = some c → ψ c = φ' b := by
      intro b c hb
      have := idxOf_spec hb
      simp [ψ, this]
    have hinv : ∀ c b, hp'.keys[c]? = some b → f b = some c := by
      intro c b hc
      obtain ⟨j, _, hj⟩ := idxOf_mem hc
      have := keys_inj hasc (idxOf_spec hj) hc
      subst this
      exact hj
    have hsome : ∀ c s, ψ c = some s → ∃ b, hp'.keys[c]? = some b ∧ φ' b = some s := by
      intro c s hc
      simp only [ψ] at hc
      cases hk : hp'.keys[c]? with
      | none => simp [hk] at hc
      | some b => exact ⟨b, rfl, by simpa [hk] using hc⟩
    have ho : ∀ c s, ψ c = some s → s.alive = true → ∃ b, f b = some c := by
      intro c s hc _
      obtain ⟨b, h3, _⟩ := hsome c s hc
      exact ⟨b, hinv c b h3⟩
    have R' : RepH w S φ' hp' w' := ⟨hp.mem.heap.sub hget, hp.mem.inj, hp.mem.rng, hp.mem.below, hp.mem.sb⟩
    obtain ⟨_, hst⟩ := R'.ren hd ho
    refine ⟨x, ψ, rfl, ⟨⟨hp.mem.below, fun id hid => ?_, fun id s h3 h4 h5 B hB => ?_, fun id id' s s' B h3 h4 h5 h6 h7 h8 h9 h10 h11 h12 => ?_⟩, ?_, ?_⟩⟩
    · have : hp'.keys.length ≤ id := by
        rw [blks_len] at hid
        omega
      simp [ψ, List.getElem?_eq_none this, Env.none]
    · obtain ⟨b, h6, h7⟩ := hsome id s h5
      obtain ⟨y, h8, _⟩ := keys_get hasc h6 f
      obtain ⟨B', cap, len, h9, _⟩ := R'.heap _ _ h8
      rw [h9] at h7
      cases h7
      cases hB
      exact R'.rng B ⟨b, cap, len, h9⟩
    · obtain ⟨b, k1, k2⟩ := hsome id s h7
      obtain ⟨b', k3, k4⟩ := hsome id' s' h8
      obtain ⟨a1, o1, c1, l1⟩ := s
      obtain ⟨a2, o2, c2, l2⟩ := s'
      simp only at h9 h10 h11 h12
      subst h9 h10 h11 h12
      have := R'.inj b b' B _ _ _ _ k2 k4
      subst this
      exact keys_inj hasc k1 k3
    · have := ren_reps hd hst hp.val
      simpa [AV.renL] using this
    · intro j blk hj
      have hlt : j < hp'.keys.length := by
        have := (List.getElem?_eq_some_iff.1 hj).1
        rwa [blks_len] at this
      obtain ⟨b, hb⟩ : ∃ b, hp'.keys[j]? = some b := ⟨_, List.getElem?_eq_getElem hlt⟩
      obtain ⟨y, h3, h4⟩ := keys_get hasc hb f
      rw [h4] at hj
      cases hj
      obtain ⟨B, cap, len, h5, h6⟩ := R'.heap _ _ h3
      exact ⟨B, cap, len, by simp [ψ, hb, h5], ren_blk hd hst h6⟩
  · exact hr'.elim

theorem con_of_call {C : Cfg} (G : GoodCfg C) {g n : Nat} {con : Con} (he : Enters C.P g) (h : ∀ args r, (con args).Out r → ∃ args', (callC C n g args').Out r ∧ ∀ w S φ vals, Reps w S φ args vals → Reps w S φ args' vals) : ValidCon C.P g con :=
  con_of_run (exec_sound G n).1 he h

end Go.Fx
