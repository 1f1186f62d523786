import Derived.Test.YtdmlnbfejgdhaaaGreatFx5
namespace Go.Fx
open Go
def killE (φ:Env) (b:Nat):Env:=fun c=>if c=b then (φ c).map Slot.kill else φ c
section
variable {w:World} {S:Nat→Prop} {φ:Env}
theorem killE_own {b B:Nat} (h:Own (killE φ b) B):Own φ B∧∀ c cap len,killE φ b c=some ⟨true,some B,cap,len⟩→c≠b:=by
 refine ⟨?_,?_⟩
 ·obtain ⟨c,cap,len,h⟩:=h
  unfold killE at h
  split at h
  ·cases hp:φ c with
   | none=>simp [hp] at h
   | some s=>simp [hp,Slot.kill] at h
  ·exact ⟨c,cap,len,h⟩
 ·rintro c cap len h rfl
  unfold killE at h
  simp only [if_true] at h
  cases hp:φ c with
  | none=>simp [hp] at h
  | some s=>simp [hp,Slot.kill] at h
theorem killE_ne {b c:Nat} (h:c≠b):killE φ b c=φ c:=by unfold killE; simp [h]
theorem killE_alive {b c:Nat} {s:Slot} (h:killE φ b c=some s) (ha:s.alive=true):c≠b∧φ c=some s:=by
 unfold killE at h
 split at h
 ·cases hp:φ c with
  | none=>simp [hp] at h
  | some s'=>simp [hp,Slot.kill] at h; subst h; cases ha
 ·rename_i hne
  exact ⟨hne,h⟩
theorem killE_mono (b:Nat):Mono w S φ w S (killE φ b):=by
 refine ⟨fun c s hc=>?_,fun B hB=>⟨⟨hB.1,hB.2.1,fun h=>hB.2.2 (killE_own h).1⟩,rfl⟩⟩
 unfold killE
 split
 ·right; simp [hc]
 ·exact .inl hc
end
end Go.Fx
