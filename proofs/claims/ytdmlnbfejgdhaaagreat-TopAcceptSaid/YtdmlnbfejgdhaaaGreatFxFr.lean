import Derived.Test.YtdmlnbfejgdhaaaGreatFx5
namespace Go.Fx
open Go
def killE (φ:Env) (b:Nat):Env:=fun c=>if c=b then (φ c).map Slot.kill else φ c
def freeze (d:Nat) (σ:St):St :=
 match nth σ.tmps d with
 | .own b=>match σ.heap.get b with
  | some (.rows r _ xs)=>{ σ with tmps:=setNth σ.tmps d (.view r xs),heap:=σ.heap.del b }
  | _=>σ
 | _=>σ
section
variable {w:World} {S:Nat→Prop} {φ:Env}
theorem killE_own {b B:Nat} (h:Own (killE φ b) B):Own φ B∧∀ c cap len,killE φ b c=some ⟨true,some B,cap,len⟩→c≠b:=by
 refine ⟨?_,?_⟩
 ·obtain ⟨c,cap,len,h⟩:=h
  unfold killE at h
  split at h
  ·cases hp:φ c with
   | none=>simp [hp] at h
   | some s=>simp [hp,Slot.kill] at h
  ·exact ⟨c,cap,len,h⟩
 ·rintro c cap len h rfl
  unfold killE at h
  simp only [if_true] at h
  cases hp:φ c with
  | none=>simp [hp] at h
  | some s=>simp [hp,Slot.kill] at h
theorem killE_ne {b c:Nat} (h:c≠b):killE φ b c=φ c:=by unfold killE; simp [h]
theorem killE_alive {b c:Nat} {s:Slot} (h:killE φ b c=some s) (ha:s.alive=true):c≠b∧φ c=some s:=by
 unfold killE at h
 split at h
 ·cases hp:φ c with
  | none=>simp [hp] at h
  | some s'=>simp [hp,Slot.kill] at h; subst h; cases ha
 ·rename_i hne
  exact ⟨hne,h⟩
theorem killE_mono (b:Nat):Mono w S φ w S (killE φ b):=by
 refine ⟨fun c s hc=>?_,fun B hB=>⟨⟨hB.1,hB.2.1,fun h=>hB.2.2 (killE_own h).1⟩,rfl⟩⟩
 unfold killE
 split
 ·right; simp [hc]
 ·exact .inl hc
end
theorem Weak.freeze (n0 d:Nat) (σ:St):Weak n0 σ (freeze d σ):=by
 unfold Fx.freeze
 split
 ·rename_i b hd
  split
  ·rename_i r e xs hg
   intro w0 S we φe φ a w hf h1 h2
   have hm:=killE_mono (w:=w) (S:=S) (φ:=φ) b
   refine ⟨killE φ b,⟨?_,⟨?_,?_,?_,h1.mem.below,h1.mem.sb⟩,?_,h1.defers⟩,⟨h2.mono.trans hm,?_,h2.grow⟩⟩
   ·obtain ⟨v,hv,hr⟩:=h1.tmps.get (nth_some hd (by simp))
    have hlow:lowerV (fun c=>if c=b then some (.rows r e xs) else none) 64 (.own b)=some (.view r xs):=by
     unfold lowerV
     simp
    have hx:Reps w S (killE φ b) [.view r xs] [v]:=by
     refine (lower_repsE (look:=fun c=>if c=b then some (.rows r e xs) else none) (φ:=φ) (S:=S) ?_ (fun B hs=>(hm.stab B hs).1) ?_ 64).1 _ _ v hlow hr
     ·intro c blk hc
      have hc:(if c=b then some (Blk.rows r e xs) else none)=some blk:=hc
      split at hc
      ·rename_i he
       cases hc
       exact h1.mem.heap _ _ (he ▸ hg)
      ·cases hc
     ·intro c B cap len blk hc hb hB
      have hc:(if c=b then some (Blk.rows r e xs) else none)=some blk:=hc
      split at hc
      ·rename_i he
       subst he
       refine ⟨hB,h1.mem.disj B ⟨_,_,_,hb⟩,?_⟩
       rintro ⟨c',cap',len',h3⟩
       obtain ⟨h4,h5⟩:=killE_alive h3 rfl
       exact h4 (h1.mem.inj _ _ _ _ _ _ _ h5 hb)
      ·cases hc
    have:=(h1.tmps.mono hm).setNth d hx
    have e':a.tmps.toList.set d v=a.tmps.toList:=by
     apply List.ext_getElem?
     intro j
     rw [List.getElem?_set]
     split
     ·rename_i e; subst e; split
      ·exact hv.symm
      ·rename_i hlt; rw [List.getElem?_eq_none (by omega)]
     ·rfl
    rwa [e'] at this
   ·intro c blk hc
    rw [Heap.get_del] at hc
    split at hc
    ·cases hc
    ·rename_i hne
     obtain ⟨B,cap,len,h3,h4⟩:=h1.mem.heap _ _ hc
     exact ⟨B,cap,len,by rw [killE_ne hne]; exact h3,h4.mono hm fun _ _=>rfl⟩
   ·intro c c' B n1 l1 n2 l2 h3 h4
    exact h1.mem.inj _ _ _ _ _ _ _ (killE_alive h3 rfl).2 (killE_alive h4 rfl).2
   ·exact fun B hB=>h1.mem.rng B (killE_own hB).1
   ·intro id hid
    unfold killE
    split
    ·rw [h1.fresh id hid]; rfl
    ·exact h1.fresh id hid
   ·intro id hid hn
    have:=h2.old id hid hn
    unfold killE
    split
    ·rw [this]; rfl
    ·exact this
  ·exact Weak.refl _ _
 ·exact Weak.refl _ _
end Go.Fx
