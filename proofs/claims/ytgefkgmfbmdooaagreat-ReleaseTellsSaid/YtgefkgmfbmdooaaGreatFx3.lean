import Derived.Test.YtgefkgmfbmdooaaGreatFx2
import Derived.Laws.AppendOwn
namespace Go.Fx
open Go Go.RowKit
theorem repeatCells_reps {w : World} {S : Nat → Prop} {φ : Env} {zs : List AV} {zv : Array Value} (h : Reps w S φ zs zv.toList) (hz : 0 < zv.size) : ∀ n : Nat,
    Reps w S φ (repeatCells zs n) ((Array.range (n * zv.size)).map (zv[· % zv.size]!)).toList
  | 0=>by simpa [repeatCells] using Reps.nil
  | n + 1=>by
    have ih:=(repeatCells_reps h hz n).app h
    have e:((Array.range ((n + 1) * zv.size)).map (zv[· % zv.size]!)).toList = ((Array.range (n * zv.size)).map (zv[· % zv.size]!)).toList ++ zv.toList:=by
      simp only [Array.toList_map,Array.toList_range]
      rw [show (n + 1) * zv.size = n * zv.size + zv.size by rw [Nat.add_mul]; omega,List.range_add,List.map_append,List.map_map]
      congr 1
      apply List.ext_getElem?
      intro i
      by_cases hi:i < zv.size
      · have:(n * zv.size + i) % zv.size = i:=by rw [Nat.mul_comm,Nat.mul_add_mod]; exact Nat.mod_eq_of_lt hi
        simp [hi,this]
      · simp [hi]
    rw [e]
    exact ih
section
variable {C:Cfg} {w:World} {S:Nat→Prop} {φ:Env}
theorem valAV_rep {r:RTy} {x:r.carrier} {v:Value} (h:ValRep w S φ r x v):Reps w S φ [valAV r x] [v]:=by
  unfold ValRep at h
  unfold valAV
  cases hra:r.isAgg with
  | true =>
    rw [hra] at h
    obtain ⟨us,rfl,hu⟩:=h
    simpa using Reps.agg hu (.nil (w:=w) (S:=S) (φ:=φ))
  | false =>
    rw [hra] at h
    obtain ⟨c,hc⟩:=isAgg_enc hra x
    rw [hc] at h
    simp only [hc]
    exact h.1
theorem val_of_cells {r:RTy} {d:r.carrier} {z:AV} {zv:Value} (hz:Reps w S φ [z] [zv]) (hd:r.dec z.cells = some d) (ha:z.aggQ = r.isAgg):ValRep w S φ r d zv:=by
  have hne:z≠.any:=by
    rintro rfl
    cases r <;> simp_all [AV.cells,RTy.dec,AV.asIntK,AV.b,AV.s,castView,AV.aggQ,RTy.isAgg]
  have hc:=dec_reps hd (cells_reps hz hne)
  unfold ValRep
  cases hra:r.isAgg with
  | true =>
    rw [hra] at ha
    cases z <;> simp only [AV.aggQ,Bool.false_eq_true] at ha
    cases hz
    exact ⟨_,rfl,hc⟩
  | false =>
    rw [hra] at ha
    obtain ⟨c,he⟩:=isAgg_enc hra d
    simp only
    have hone:zv.cells.toList = [zv]∧zv.oneCell' = true:=by
      cases hz with
      | any=>exact absurd rfl hne
      | agg=>simp [AV.aggQ] at ha
      | tup=>cases r <;> simp_all [AV.cells,RTy.dec,AV.asIntK,AV.b,AV.s,castView,RTy.isAgg]
      | ptr h=>obtain ⟨s,B,h1,h2,rfl⟩:=h; exact ⟨rfl,rfl⟩
      | rptr h=>obtain ⟨s,B,h1,h2,rfl⟩:=h; exact ⟨rfl,rfl⟩
      | own h=>obtain ⟨s,h1,h2⟩:=h; obtain ⟨a,l,c,rfl⟩:=Slot.fits_slice h2; exact ⟨rfl,rfl⟩
      | slc h =>
        obtain ⟨s,B,c,h1,h2,h3⟩:=h
        rcases h3 with ⟨_,a,rfl⟩ | ⟨_,_,rfl⟩ <;> exact ⟨rfl,rfl⟩
      | map h=>obtain ⟨s,B,h1,h2,rfl⟩:=h; exact ⟨rfl,rfl⟩
      | _=>exact ⟨rfl,rfl⟩
    rw [hone.1] at hc
    exact ⟨hc,hone.2⟩
def foundV (q:Option (Nat × Value)) (z:Value):Value × Bool :=
  match q with
  | some (_,v)=>(v,true)
  | none=>(z,false)
theorem lookup_run {P : Program} {t kt e : TypeId} {B : Nat} {ms : Array MapEntry} {clock : Nat} {zv : Value} {i : Int} {q : Option (Nat × Value)} (hu : P.underlying t = some (.map kt e)) (hk : P.underlying kt = some (.int .i64))
    (h4:w.heap[B]? = some (.map ms clock)) (hzr:(zeroValue e).run P w = .ok zv w) (h6:Instr.findNow (.int .i64) (.int .i64 i) ms.toList 0 = some q) (ok:Bool) :
    (Instr.lookup t (.map (some B)) (.int .i64 i) ok).run P w = .ok (if ok then .tuple #[(foundV q zv).1,.bool (foundV q zv).2] else (foundV q zv).1) w:=by
  have hgo:(getObj B).run P w = .ok (.map ms clock) w:=by simp [getObj,Sem.run,h4]
  have hck:=checkKey_run P w hk ms.isEmpty 9999 i
  have hfk:(Instr.findKey kt (.int .i64 i) ms.toList).run P w = .ok q w:=by simp [Instr.findKey,und_run hk,h6]
  cases q with
  | none=>simp [Instr.lookup,und_run hu,hgo,hck,hfk,hzr,foundV]
  | some p=>obtain ⟨j,v⟩:=p; simp [Instr.lookup,und_run hu,hgo,hck,hfk,foundV]
theorem lookupV_gives {P : Program} {look : Nat → Option Blk} (HL : HeapRep w S φ look) {t : TypeId} {a b : AV} {x y : Value} (ha : Reps w S φ [a] [x]) (hb : Reps w S φ [b] [y]) (ok : Bool) :
    Gives P w S φ (lookupV P look t a b ok) (Instr.lookup t x y ok):=by
  unfold lookupV
  split
  · rename_i kt e b' l i hu hn
    cases num_inv hn hb
    split
    · rename_i hk
      split
      · exact .fail _
      · rename_i z hz
        obtain ⟨it,zv,_,_,rfl,hzr⟩:=zeroAV_run (w:=w) hz
        cases ha with
        | map h =>
          obtain ⟨s,B,h1,h2,rfl⟩:=h
          split
          · rename_i r es hl
            obtain ⟨B',cap,len,h3,B'',ms,clock,rfl,h4,h5⟩:=HL _ _ hl
            rw [h1] at h3
            cases h3
            cases h2
            split
            · rename_i d hd
              split
              · rename_i hagg
                obtain ⟨q,h6,h7⟩:=mget_inv (k:=i) 0 h5
                have hzd:=val_of_cells (ofValue_reps (w:=w) (S:=S) (φ:=φ) zv) hd hagg
                have hval:ValRep w S φ r ((mget es i).getD d) (foundV q zv).1∧(foundV q zv).2 = (mget es i).isSome:=by
                  cases hm:mget es i with
                  | none =>
                    cases q with
                    | none=>exact ⟨hzd,rfl⟩
                    | some p=>obtain ⟨j,v⟩:=p; simp [hm] at h7
                  | some y =>
                    cases q with
                    | none=>simp [hm] at h7
                    | some p=>obtain ⟨j,v⟩:=p; simp only [hm] at h7; exact ⟨h7,rfl⟩
                refine .ret (lookup_run hu hk h4 hzr h6 ok) ?_
                rw [← hval.2]
                cases ok
                · simpa using valAV_rep hval.1
                · simpa using Reps.tup (us:=[_,_]) ((valAV_rep hval.1).cons (.bool (foundV q zv).2 .nil)) (.nil (w:=w) (S:=S) (φ:=φ))
              · exact .fail _
            · exact .fail _
          · rename_i es hl
            obtain ⟨B',cap,len,h3,B'',ms,clock,rfl,h4,h5⟩:=HL _ _ hl
            rw [h1] at h3
            cases h3
            cases h2
            split
            · rename_i a' hl2
              obtain ⟨q,h6,h7⟩:=lget_inv 0 hl2 h5
              refine .ret (lookup_run hu hk h4 hzr h6 ok) ?_
              cases q with
              | none=>exact h7.elim
              | some p =>
                obtain ⟨j,v⟩:=p
                cases ok
                · simpa [foundV] using h7
                · simpa [foundV] using Reps.tup (us:=[_,.bool true]) (h7.cons (.blit _ .nil)) (.nil (w:=w) (S:=S) (φ:=φ))
            · rename_i hl2
              obtain ⟨q,h6,h7⟩:=lget_inv 0 hl2 h5
              refine .ret (lookup_run hu hk h4 hzr h6 ok) ?_
              cases q with
              | some p=>obtain ⟨j,v⟩:=p; exact h7.elim
              | none =>
                cases ok
                · simpa [foundV] using ofValue_reps zv
                · simpa [foundV] using Reps.tup (us:=[_,.bool false]) ((ofValue_reps zv).cons (.blit _ .nil)) (.nil (w:=w) (S:=S) (φ:=φ))
            · exact .fail _
          · exact .fail _
    · exact .fail _
  · exact .fail _
structure CfgOK (C:Cfg):Prop where
  mixed:C.P.follows .mixedOrders = true
  con:∀ g c,(g,c) ∈ C.con→ValidCon C.P g c
  pcon:∀ g f,(g,f) ∈ C.pcon→ValidPcon C.P g f
theorem resD_sound (OK : CfgOK C) {base : Nat} {o : Oper} {ρ : Operand → AV} {look : Nat → Option Blk} {a : Act} {K : Act → World → Prop} {Q : Exit → Act → World → Prop}
    (HL:HeapRep w S φ look) (hdisj:∀ B,Own φ B→¬ S B) (hsow:∀ B,S B∨Own φ B→B < w.heap.size) (hops:∀ x ∈ o.op.operands,Reps w S φ [ρ x] [a.eval x])
    (h:(resD C base o ρ look).wp fun r=>FreshE φ base r.2.length∧∀ x w' φ',ResPost w S φ base r.1 r.2 x w' φ'→K (a.put o.dst x) w'):o.wp C.P a w K Q:=by
  unfold resD at h
  have opsr:∀ x,x ∈ o.op.operands→Reps w S φ [ρ x] [a.eval x]:=hops
  split at h
  · rename_i x ho
    exact pure_step (t:=.ret (ρ x)) (s:=pure (a.eval x)) (by simp [execOp,ho]) (.ret rfl (opsr x (by simp [ho,Op.operands]))) h
  · rename_i x ho
    exact pure_step (t:=.ret (ρ x)) (s:=pure (a.eval x)) (by simp [execOp,ho]) (.ret rfl (opsr x (by simp [ho,Op.operands]))) h
  · rename_i c x y ho
    exact pure_step (s:=do pure (if ← asBool (a.eval c) then a.eval x else a.eval y)) (by simp [execOp,ho])
      (pickV_gives (opsr c (by simp [ho,Op.operands])) (opsr x (by simp [ho,Op.operands])) (opsr y (by simp [ho,Op.operands]))) h
  · -- nilCheck
    rename_i x ho
    have hx:=opsr x (by simp [ho,Op.operands])
    have go:∀ (v:AV),Reps w S φ [v] [a.eval x]→((∃ p,a.eval x = .pointer (some p))∨∃ f u1 u2,a.eval x = .func (.func f) u1 u2)→((Tree.ret v).bind fun a=>Tree.ret (a,([]:List Blk))).wp (fun r=>FreshE φ base r.2.length∧∀ x w' φ',ResPost w S φ base r.1 r.2 x w' φ'→K (a.put o.dst x) w')→o.wp C.P a w K Q:=by
      intro v hr hz hh
      have:=hh.2 _ w φ ⟨Ext.refl _ _ _,hr,fun j blk hj=>by simp at hj⟩
      unfold Oper.wp
      have e:(execOp a.eval o).run C.P w = .ok (.value (a.eval x)) w:=by
        rcases hz with ⟨p,hp⟩ | ⟨f,u1,u2,hp⟩
        · simp [execOp,ho,hp]
        · simp [execOp,ho,hp]
      rw [e,Oper.upon_value]
      exact this
    have hx':=hx
    split at h
    · rename_i b off hv
      rw [hv] at hx'
      refine go _ (by rw [← hv]; exact hx) ?_ h
      generalize a.eval x = z at hx'
      cases hx' with
      | ptr h=>obtain ⟨s,B,_,_,rfl⟩:=h; exact .inl ⟨_,rfl⟩
    · rename_i b r i off hv
      rw [hv] at hx'
      refine go _ (by rw [← hv]; exact hx) ?_ h
      generalize a.eval x = z at hx'
      cases hx' with
      | rptr h=>obtain ⟨s,B,_,_,rfl⟩:=h; exact .inl ⟨_,rfl⟩
    · rename_i cs hv
      rw [hv] at hx'
      refine go _ (by rw [← hv]; exact hx) ?_ h
      generalize a.eval x = z at hx'
      cases hx'
      exact .inl ⟨_,rfl⟩
    · rename_i f u1 u2 hv
      rw [hv] at hx'
      refine go _ (by rw [← hv]; exact hx) ?_ h
      generalize a.eval x = z at hx'
      cases hx'
      exact .inr ⟨_,_,_,rfl⟩
    · exact h.elim
  · rename_i op t x y yt ho
    exact pure_step (s:=binSem op t x y (a.eval x) (a.eval y)) (by simp [execOp,ho,binSem]) (binOpV_gives x y (opsr x (by simp [ho,Op.operands])) (opsr y (by simp [ho,Op.operands]))) h
  · rename_i op t x ho
    exact pure_step (s:=Op.unary op (a.eval x)) (by simp [execOp,ho]) (unOpV_gives (opsr x (by simp [ho,Op.operands]))) h
  · rename_i s d x ho
    exact pure_step (s:=Go.convert s d (a.eval x)) (by simp [execOp,ho]) (convertV_gives HL (opsr x (by simp [ho,Op.operands]))) h
  · -- makeInterface
    rename_i t x ho
    refine pure_step (s:=Instr.makeInterface t (a.eval x)) (by simp [execOp,ho]) ?_ h
    split
    · exact .fail _
    · exact .fail _
    · rename_i d hni hu
      refine .ret (z:=.iface t (a.eval x)) ?_ (.iface t (opsr x (by simp [ho,Op.operands])) .nil)
      cases d <;> first | (exact absurd rfl (hni _)) | simp [Instr.makeInterface,und_run hu]
  · -- makeFunc
    rename_i f first captured ho
    refine pure_step (s:=Instr.makeFunc f (first.map a.eval) (captured.map a.eval)) (by simp [execOp,ho]) ?_ h
    have lst:∀ l:List Operand,(∀ x ∈ l,x ∈ o.op.operands)→Reps w S φ (l.map ρ) (l.map a.eval):=by
      intro l hl
      induction l with
      | nil=>exact .nil
      | cons x l ih=>exact (opsr x (hl x (by simp))).cons (ih fun y hy=>hl y (by simp [hy]))
    have h1:=lst first.toList (by intro x hx; simp [ho,Op.operands]; exact .inl (by simpa using hx))
    have h2:=lst captured.toList (by intro x hx; simp [ho,Op.operands]; exact .inr (by simpa using hx))
    refine .ret (z:=.func f (first.map a.eval) (captured.map a.eval)) (by simp [Instr.makeFunc]) ?_
    have:=Reps.fn f h1 h2 (.nil (w:=w) (S:=S) (φ:=φ))
    have e:∀ l:Array Operand,(l.toList.map a.eval).toArray = l.map a.eval:=by
      intro l
      apply Array.ext'
      simp
    rwa [e,e] at this
  · rename_i s x f ho
    exact pure_step (s:=Instr.fieldAt s (a.eval x) f) (by simp [execOp,ho]) (fieldAddrV_gives (opsr x (by simp [ho,Op.operands]))) h
  · rename_i s x f ho
    exact pure_step (s:=Instr.field s (a.eval x) f) (by simp [execOp,ho]) (fieldV_gives (opsr x (by simp [ho,Op.operands]))) h
  · rename_i t x ho
    exact pure_step (s:=Instr.loadAt t (a.eval x)) (by simp [execOp,ho]) (loadV_gives HL (opsr x (by simp [ho,Op.operands]))) h
  · rename_i t x i ho
    exact pure_step (s:=Instr.indexAt t (a.eval x) (a.eval i)) (by simp [execOp,ho]) (indexAddrV_gives HL (opsr x (by simp [ho,Op.operands])) (opsr i (by simp [ho,Op.operands]))) h
  · rename_i t x i ho
    exact pure_step (s:=Instr.index t (a.eval x) (a.eval i)) (by simp [execOp,ho]) (indexV_gives (opsr x (by simp [ho,Op.operands])) (opsr i (by simp [ho,Op.operands]))) h
  · rename_i t x lo hi mx ho
    refine pure_step (s:=Instr.sliceAt t (a.eval x) (lo.map a.eval) (hi.map a.eval) (mx.map a.eval)) (by simp [execOp,ho])
      (sliceV_gives (opsr x (by simp [ho,Op.operands])) ?_ ?_ ?_) h
    · intro y hy; exact opsr y (by simp [ho,Op.operands,hy])
    · intro y hy; exact opsr y (by simp [ho,Op.operands,hy])
    · intro y hy; exact opsr y (by simp [ho,Op.operands,hy])
  · rename_i t x i ok ho
    exact pure_step (s:=Instr.lookup t (a.eval x) (a.eval i) ok) (by simp [execOp,ho]) (lookupV_gives HL (opsr x (by simp [ho,Op.operands])) (opsr i (by simp [ho,Op.operands])) ok) h
  · -- extract
    rename_i t i ho
    refine pure_step (s:=Instr.extract (a.eval t) i) (by simp [execOp,ho]) ?_ h
    have ht:=opsr t (by simp [ho,Op.operands])
    split
    · rename_i vs hv
      rw [hv] at ht
      split
      · rename_i v hvi
        generalize a.eval t = z at ht
        cases ht with
        | tup hr =>
          obtain ⟨x,hx,hxr⟩:=hr.get hvi
          exact .ret (z:=x) (by simp [Instr.extract,hx]) hxr
      · exact .fail _
    · exact .fail _
  · rename_i x xt t ok ho
    exact pure_step (s:=Instr.typeAssert (a.eval x) xt t ok) (by simp [execOp,ho]) (typeAssertV_gives (opsr x (by simp [ho,Op.operands])) xt t ok) h
  · rename_i t parts ho
    refine pure_step (s:=Instr.build t (parts.map fun (i,x)=>(i,a.eval x))) (by simp [execOp,ho]) (buildV_gives ?_) h
    intro p hp
    exact opsr p.2 (by simp [ho,Op.operands]; exact ⟨p.1,by simpa using hp⟩)
  · -- alloc
    rename_i t ho
    split at h
    · rename_i z hz
      obtain ⟨it,zv,_,_,rfl,hzr⟩:=zeroAV_run (w:=w) hz
      obtain ⟨hf,hk⟩:=h
      have hcr:Reps w S φ (ofValue zv).cells zv.cells.toList:=by
        unfold ofValue
        split
        · simpa [AV.cells,Value.cells] using ofCells_reps _
        · rename_i hna
          by_cases ha:ofCell zv = .any
          · rw [ha]
            cases zv <;> first | exact .any _ .nil | (exact absurd rfl (hna _))
          · exact cells_reps (ofCell_reps zv) ha
      obtain ⟨hx,hb⟩:=new_cells hf hcr t
      have:=hk _ _ _ ⟨hx,.ptr ⟨_,_,updE_self _ _ _,rfl,rfl⟩ .nil,hb⟩
      unfold Oper.wp
      have e:(execOp a.eval o).run C.P w = .ok (.value (.pointer (some ⟨w.heap.size,0,none⟩))) (w.alloc (.cells zv.cells t)):=by
        simp [execOp,ho,Instr.alloc,hzr,newVar,newRow]
      rw [e,Oper.upon_value]
      exact this
    · exact h.elim
  · -- box
    rename_i t x ho
    have hx:=opsr x (by simp [ho,Op.operands])
    split at h
    · exact h.elim
    · exact h.elim
    · rename_i hna _
      obtain ⟨hf,hk⟩:=h
      have hcr:=cells_reps hx (fun e=>hna e)
      obtain ⟨hx',hb⟩:=new_cells hf hcr t
      have:=hk _ _ _ ⟨hx',.ptr ⟨_,_,updE_self _ _ _,rfl,rfl⟩ .nil,hb⟩
      unfold Oper.wp
      have e:(execOp a.eval o).run C.P w = .ok (.value (.pointer (some ⟨w.heap.size,0,none⟩))) (w.alloc (.cells (a.eval x).cells t)):=by
        simp [execOp,ho,Instr.box,newVar,newRow]
      rw [e,Oper.upon_value]
      exact this
  · -- buildSlice
    rename_i t n parts ho
    split at h
    · rename_i e hu
      split at h
      · rename_i sz z hsz hz
        split at h
        · rename_i hc
          obtain ⟨hc1,hc2,hc3⟩:=hc
          split at h
          · rename_i cs hcs
            obtain ⟨hf,hk⟩:=h
            obtain ⟨it,zv,hit,hiz,rfl,hzr⟩:=zeroAV_run (w:=w) hz
            have hcr:Reps w S φ (ofValue zv).cells zv.cells.toList:=by
              unfold ofValue
              split
              · simpa [AV.cells,Value.cells] using ofCells_reps _
              · rename_i hna
                by_cases ha:ofCell zv = .any
                · rw [ha]
                  cases zv <;> first | exact .any _ .nil | (exact absurd rfl (hna _))
                · exact cells_reps (ofCell_reps zv) ha
            have hzs:zv.cells.size = sz + 1:=by have:=hcr.len; simp at this; omega
            have hrep:=repeatCells_reps hcr (by omega) n
            rw [hzs] at hrep
            have hp:=partsRep_of (w:=w) (S:=S) (φ:=φ) (ρ:=ρ) (η:=a.eval) (l:=parts.toList) (fun p hp=>opsr p.2 (by simp [ho,Op.operands]; exact ⟨p.1,by simpa using hp⟩))
            obtain ⟨us',h1,h2,h3⟩:=fill_run hp hc3 hrep hcs
            obtain ⟨hx',hb⟩:=new_cells hf h2 e
            have hsize:us'.size = n * (sz + 1):=by rw [h3]; simp
            have:=hk (.slice (some ⟨w.heap.size,0,none⟩) n n) _ _ ⟨hx',by
              unfold slcN
              split
              · exact .nils _ .nil
              · exact .slc ⟨_,_,_,updE_self _ _ _,rfl,.inr ⟨Nat.le_refl _,fun _ _=>rfl,rfl⟩⟩ .nil,hb⟩
            unfold Oper.wp
            have ee:(execOp a.eval o).run C.P w = .ok (.value (.slice (some ⟨w.heap.size,0,none⟩) n n)) (w.alloc (.cells us' e)):=by
              have ep:(parts.map fun (i,x)=>(i,a.eval x)).toList = parts.toList.map fun (i,x)=>(i,a.eval x):=by simp
              have hng:¬ (n * (sz + 1) > 2 ^ 24):=by simp; omega
              simp only [execOp,ho,Instr.buildSlice,Sem.run_bind,und_run hu,Result.andThen_ok,szOf_run hsz]
              rw [if_neg hng]
              by_cases hn0:n * (sz + 1) = 0
              · have hn:n = 0:=by rcases Nat.mul_eq_zero.1 hn0 with h | h <;> omega
                subst hn
                have e1:∀ f:Nat→Value,(Array.range (0 * (sz + 1))).map f = #[]:=by intro f; simp
                rw [e1] at h1
                rw [if_pos hn0]
                simp only [Sem.run_bind,Sem.run_pure,Result.andThen_ok]
                rw [e1,ep,h1]
                simp [newRow]
              · rw [if_neg hn0]
                simp only [Sem.run_bind,Sem.run_pure,Result.andThen_ok,hzr]
                rw [ep,hzs,h1]
                simp [newRow]
            rw [ee,Oper.upon_value]
            exact this
          · exact h.elim
        · exact h.elim
      · exact h.elim
    · exact h.elim
  · -- makeMap
    rename_i t ho
    split at h
    · rename_i kt e hu
      have run:(execOp a.eval o).run C.P w = .ok (.value (.map (some w.heap.size))) (w.alloc (.map #[] 0)):=by
        simp [execOp,ho,Instr.makeMap]
      split at h
      · rename_i r hr
        obtain ⟨hf,hk⟩:=h
        have hx:=ext_new (w:=w) (φ:=φ) (.map #[] 0) base 0 0
        have:=hk (.map (some w.heap.size)) _ _ ⟨hx,.map ⟨_,_,updE_self _ _ _,rfl,rfl⟩ .nil,fun j blk hj=>by
          cases j with
          | succ j=>simp at hj
          | zero =>
            simp at hj
            subst hj
            exact ⟨_,_,_,updE_self _ _ _,_,#[],0,rfl,alloc_heap _,trivial⟩⟩
        unfold Oper.wp
        rw [run,Oper.upon_value]
        exact this
      · obtain ⟨hf,hk⟩:=h
        have hx:=ext_new (w:=w) (φ:=φ) (.map #[] 0) base 0 0
        have:=hk (.map (some w.heap.size)) _ _ ⟨hx,.map ⟨_,_,updE_self _ _ _,rfl,rfl⟩ .nil,fun j blk hj=>by
          cases j with
          | succ j=>simp at hj
          | zero =>
            simp at hj
            subst hj
            exact ⟨_,_,_,updE_self _ _ _,_,#[],0,rfl,alloc_heap _,trivial⟩⟩
        unfold Oper.wp
        rw [run,Oper.upon_value]
        exact this
    · exact h.elim
  · -- call
    rename_i c ho
    split at h
    · rename_i hc
      split at h
      · rename_i t x ht hx
        have hxm:x ∈ c.args:=Array.mem_of_getElem? hx
        refine pure_step (s:=Builtin.len_ c.argTypes o.type (c.args.map a.eval)) ?_ (lenV_gives HL (opsr x (by simp [ho,Op.operands,Call.operands,hxm])) _ _ ht _ (by simp [hx])) h
        simp [execOp,ho,resolve,hc,invoke,builtin]
      · exact h.elim
    · rename_i hc
      split at h
      · rename_i v vs hv
        have hargs:Reps w S φ (c.args.toList.map ρ) (c.args.toList.map a.eval):=by
          have:∀ x ∈ c.args.toList,Reps w S φ [ρ x] [a.eval x]:=fun x hx=>opsr x (by simp [ho,Op.operands,Call.operands,Array.mem_toList_iff.1 hx])
          revert this
          generalize c.args.toList = l
          intro this
          induction l with
          | nil=>exact .nil
          | cons x l ih=>exact (this x (by simp)).cons (ih fun y hy=>this y (by simp [hy]))
        rw [hv] at hargs
        obtain ⟨x,xs,hxs,h1,h2⟩:=hargs.uncons
        refine pure_step (s:=xs.foldlM Builtin.min2 x) ?_ (foldNum_gives (fun k x y=>by simp [Builtin.min2,minI]) h1 h2) h
        simp [execOp,ho,resolve,hc,invoke,builtin,Builtin.min_,hxs]
      · exact h.elim
    · rename_i hc
      split at h
      · rename_i v vs hv
        have hargs:Reps w S φ (c.args.toList.map ρ) (c.args.toList.map a.eval):=by
          have:∀ x ∈ c.args.toList,Reps w S φ [ρ x] [a.eval x]:=fun x hx=>opsr x (by simp [ho,Op.operands,Call.operands,Array.mem_toList_iff.1 hx])
          revert this
          generalize c.args.toList = l
          intro this
          induction l with
          | nil=>exact .nil
          | cons x l ih=>exact (this x (by simp)).cons (ih fun y hy=>this y (by simp [hy]))
        rw [hv] at hargs
        obtain ⟨x,xs,hxs,h1,h2⟩:=hargs.uncons
        refine pure_step (s:=xs.foldlM Builtin.max2 x) ?_ (foldNum_gives (fun k x y=>by simp [Builtin.max2,maxI]) h1 h2) h
        simp [execOp,ho,resolve,hc,invoke,builtin,Builtin.max_,hxs]
      · exact h.elim
    · exact h.elim
    · split at h
      · rename_i g args hcall
        split at h
        · rename_i f hf
          have hv:=OK.pcon g f (findPcon_mem hf)
          obtain ⟨vals,hrun,hvals⟩:=callTo_run ho hops hcall hv.1
          rw [Tree.wp_bind] at h
          obtain ⟨r,hr,hq⟩:=ofOption_wp h
          unfold Oper.wp
          rw [hrun,Oper.upon_enter]
          refine (hv.2 args r hr w S φ vals hvals).mono ?_
          rintro e w' ⟨x,rfl,hb,hxr⟩
          exact hq.2 x w' φ ⟨⟨hb,fun _ _=>rfl,fun _ _ h1 h2=>absurd h2 (by simp; omega),fun _ _ _ _ _ h1 h2=>absurd h2 (by simp; omega)⟩,hxr,fun j blk hj=>by simp at hj⟩
        · split at h
          · rename_i con hcon
            have hv:=OK.con g con (findCon_mem hcon)
            obtain ⟨vals,hrun,hvals⟩:=callTo_run ho hops hcall hv.1
            unfold Oper.wp
            rw [hrun,Oper.upon_enter]
            split at h
            · rename_i hpure
              rw [Tree.wp_bind] at h
              obtain ⟨r,hr,hq⟩:=Tree.wp_out.1 h
              have hvals':=pure_reps (S':=fun B=>S B∨Own φ B) (φ':=Env.none) (fun B hB=>⟨hB.1,fun hs=>hs.elim hB.2.1 hB.2.2,fun ⟨_,_,_,hh⟩=>by cases hh⟩) hvals hpure
              refine (hv.2 args r hr w _ vals hsow hvals').mono ?_
              rintro e w' ⟨x,ψ,rfl,hpost⟩
              exact hq.2 x w' _ (post_join (S:=S) (φ:=φ) (base:=base) hpost (.inr fun B=>Iff.rfl))
            · split at h
              · rename_i args' hlow
                rw [Tree.wp_bind] at h
                obtain ⟨r,hr,hq⟩:=Tree.wp_out.1 h
                have hvals':=(lower_reps HL hdisj 64).2 _ _ _ hlow hvals
                refine (hv.2 args' r hr w _ vals (fun B hB=>hsow B (.inl hB)) hvals').mono ?_
                rintro e w' ⟨x,ψ,rfl,hpost⟩
                split at hq
                · rename_i hfree
                  simp only [Bool.and_eq_true] at hfree
                  exact hq.2 x w' _ (post_join (S:=S) (φ:=φ) (base:=base) hpost (.inl hfree))
                · exact hq.elim
              · exact h.elim
          · exact h.elim
      · exact h.elim
  · exact h.elim
end
end Go.Fx
namespace Go.Fx
open Go Go.RowKit
theorem beq_false {a b:Nat} (h:a≠b):Nat.beq a b = false:=by
  cases hb:Nat.beq a b with
  | false=>rfl
  | true=>exact absurd (by simpa using hb) h
theorem beq_self (a:Nat):Nat.beq a a = true:=by simp
theorem Heap.get_put (x:Blk) (b n:Nat):∀ h:Heap,(h.put b x).get n = if n = b then some x else h.get n
  | []=>by
    by_cases hn:n = b
    · subst hn; simp [Heap.put,Heap.get]
    · simp [Heap.put,Heap.get,hn,beq_false (Ne.symm hn)]
  | (c,y) :: h=>by
    unfold Heap.put
    by_cases hc:c = b
    · subst hc
      rw [beq_self]
      by_cases hn:n = c
      · subst hn; simp [Heap.get]
      · simp [Heap.get,hn,beq_false (Ne.symm hn)]
    · rw [beq_false hc]
      have ih:=Heap.get_put x b n h
      by_cases hn:n = c
      · subst hn; simp [Heap.get,hc]
      · simp [Heap.get,beq_false (Ne.symm hn),ih]
theorem Heap.get_ins_ne (x:Blk) {b n:Nat} (hn:n≠b):∀ h:Heap,(h.ins b x).get n = h.get n
  | []=>by simp [Heap.ins,Heap.get,beq_false (Ne.symm hn)]
  | (c,y) :: h=>by
    unfold Heap.ins
    cases Nat.blt b c with
    | true=>simp [Heap.get,beq_false (Ne.symm hn)]
    | false=>simp [Heap.get,Heap.get_ins_ne x hn h]
theorem Heap.get_ins_self (x:Blk) {b:Nat}:∀ h:Heap,h.get b = none→(h.ins b x).get b = some x
  | [],_=>by simp [Heap.ins,Heap.get]
  | (c,y) :: h,hb=>by
    unfold Heap.ins
    cases Nat.blt b c with
    | true=>simp [Heap.get]
    | false =>
      by_cases hc:c = b
      · subst hc; simp [Heap.get] at hb
      · simp only [Heap.get,beq_false hc,cond_false] at hb ⊢
        exact Heap.get_ins_self x h hb
theorem Heap.get_ins (x:Blk) {b:Nat} (n:Nat) {h:Heap} (hb:h.get b = none):(h.ins b x).get n = if n = b then some x else h.get n:=by
  by_cases hn:n = b
  · subst hn; simp [Heap.get_ins_self x h hb]
  · simp [Heap.get_ins_ne x hn h,hn]
theorem Heap.get_del (b n:Nat):∀ h:Heap,(h.del b).get n = if n = b then none else h.get n
  | []=>by simp [Heap.del,Heap.get]
  | (c,y) :: h=>by
    unfold Heap.del
    have ih:=Heap.get_del b n h
    by_cases hc:c = b
    · subst hc
      rw [beq_self]
      by_cases hn:n = c
      · subst hn; simp [ih]
      · simp [ih,hn,Heap.get,beq_false (Ne.symm hn)]
    · rw [beq_false hc]
      by_cases hn:n = c
      · subst hn; simp [Heap.get,hc]
      · simp [Heap.get,beq_false (Ne.symm hn),ih]
theorem get_insBlks:∀ (l:List Blk) (b n:Nat) (h:Heap),(∀ i,b≤i→i < b + l.length→h.get i = none)→(insBlks b l h).get n = if b≤n∧n < b + l.length then l[n - b]? else h.get n
  | [],b,n,h,_=>by
    have:¬ (b≤n∧n < b + 0):=by omega
    simp [insBlks]
    intro h1 h2
    omega
  | x :: l,b,n,h,hf=>by
    unfold insBlks
    have hb:h.get b = none:=hf b (Nat.le_refl _) (by simp)
    rw [get_insBlks l (b + 1) n (h.ins b x) (fun i h1 h2=>by rw [Heap.get_ins_ne x (by omega)]; exact hf i (by omega) (by simp; omega)),Heap.get_ins x n hb]
    by_cases hn:n = b
    · subst hn
      have:¬ (n + 1≤n∧n < n + 1 + l.length):=by omega
      simp [this]
    · by_cases h2:b≤n∧n < b + (x :: l).length
      · have h3:b + 1≤n∧n < b + 1 + l.length:=by simp at h2; omega
        have h4:n - b = (n - (b + 1)) + 1:=by omega
        rw [if_pos h2,if_pos h3,h4]
        simp
      · have h3:¬ (b + 1≤n∧n < b + 1 + l.length):=by simp at h2; omega
        rw [if_neg h2,if_neg h3,if_neg hn]
structure RepH (w0:World) (S:Nat→Prop) (φ:Env) (h:Heap) (w:World):Prop where
  heap:HeapRep w S φ h.get
  inj:InjE φ
  rng:∀ B,Own φ B→w0.heap.size≤B∧B < w.heap.size
  below:Below w0.heap.size w0 w
  sb:∀ B,S B→B < w0.heap.size
section
variable {P:Program} {w0 w:World} {S:Nat→Prop} {φ:Env} {h:Heap}
theorem RepH.disj (R:RepH w0 S φ h w):∀ B,Own φ B→¬ S B:=fun B ho hs=>by
  have:=(R.rng B ho).1
  have:=R.sb B hs
  omega
theorem RepH.sbw (R:RepH w0 S φ h w):∀ B,S B→B < w.heap.size:=fun B hs=>Nat.lt_of_lt_of_le (R.sb B hs) R.below.size
theorem RepH.sow (R:RepH w0 S φ h w):∀ B,S B∨Own φ B→B < w.heap.size:=fun B hs=>hs.elim (R.sbw B) fun h=>(R.rng B h).2
theorem RepH.get_lt (R:RepH w0 S φ h w) {b B cap len:Nat} (hb:φ b = some ⟨true,some B,cap,len⟩):B < w.heap.size:=(R.rng B ⟨_,_,_,hb⟩).2
theorem RepH.ext (R : RepH w0 S φ h w) {base : Nat} {v : AV} {bs : List Blk} {x : Value} {w' : World} {φ' : Env} (hf : FreshE φ base bs.length) (hp : ResPost w S φ base v bs x w' φ') :
    RepH w0 S φ' (insBlks base bs h) w'∧Mono w S φ w' S φ':=by
  have m:Mono w S φ w' S φ':=hp.ext.mono hf
  have hnone:∀ i,base≤i→i < base + bs.length→h.get i = none:=by
    intro i h1 h2
    cases hg:h.get i with
    | none=>rfl
    | some blk =>
      obtain ⟨B,cap,len,h3,_⟩:=R.heap _ _ hg
      rw [hf i h1 h2] at h3
      cases h3
  refine ⟨⟨?_,?_,?_,?_,R.sb⟩,m⟩
  · intro b blk hb
    rw [get_insBlks _ _ _ _ hnone] at hb
    split at hb
    · rename_i hr
      obtain ⟨B,cap,len,h1,h2⟩:=hp.blks (b - base) blk hb
      rw [show base + (b - base) = b by omega] at h1
      exact ⟨B,cap,len,h1,h2⟩
    · rename_i hr
      obtain ⟨B,cap,len,h1,h2⟩:=R.heap _ _ hb
      refine ⟨B,cap,len,by rw [hp.ext.same b hr,h1],h2.mono m fun k hk=>?_⟩
      subst hk
      exact hp.ext.below.block k (R.get_lt h1)
  · intro b b' B c n c' n' h1 h2
    by_cases hr:base≤b∧b < base + bs.length
    · by_cases hr':base≤b'∧b' < base + bs.length
      · exact hp.ext.inj b b' _ _ B hr.1 hr.2 hr'.1 hr'.2 h1 h2 rfl rfl rfl rfl
      · rw [hp.ext.same b' hr'] at h2
        have h3:=(hp.ext.new b _ hr.1 hr.2 h1 B rfl).1
        have h4:=R.get_lt h2
        omega
    · rw [hp.ext.same b hr] at h1
      by_cases hr':base≤b'∧b' < base + bs.length
      · have h3:=(hp.ext.new b' _ hr'.1 hr'.2 h2 B rfl).1
        have h4:=R.get_lt h1
        omega
      · rw [hp.ext.same b' hr'] at h2
        exact R.inj b b' B c n c' n' h1 h2
  · rintro B ⟨id,cap,len,hid⟩
    by_cases hr:base≤id∧id < base + bs.length
    · have h1:=hp.ext.new id _ hr.1 hr.2 hid B rfl
      exact ⟨Nat.le_trans R.below.size h1.1,h1.2⟩
    · rw [hp.ext.same id hr] at hid
      have h1:=R.rng B ⟨_,_,_,hid⟩
      exact ⟨h1.1,Nat.lt_of_lt_of_le h1.2 hp.ext.below.size⟩
  · exact R.below.trans ⟨hp.ext.below.os,hp.ext.below.tape,hp.ext.below.output,hp.ext.below.size,fun k hk=>hp.ext.below.block k (Nat.lt_of_lt_of_le hk R.below.size)⟩
structure Chg (w w':World) (B:Nat):Prop where
  os:w'.os = w.os
  tape:w'.tape = w.tape
  output:w'.output = w.output
  size:w'.heap.size = w.heap.size
  other:∀ k,k≠B→w'.heap[k]? = w.heap[k]?
theorem Chg.setRow (w:World) (B:Nat) (cs:Array Value):Chg w (w.setRow B cs) B:=⟨rfl,rfl,rfl,by simp,fun k hk=>setRow_other w B k cs hk⟩
theorem Chg.setObj (w:World) (B:Nat) (o:Obj):Chg w { w with heap:=w.heap.setIfInBounds B o } B:=⟨rfl,rfl,rfl,by simp,fun k hk=>by simp [Ne.symm hk]⟩
theorem Chg.mono {w':World} {B:Nat} (c:Chg w w' B) (ho:Own φ B):Mono w S φ w' S φ:=by
  refine ⟨fun b s hb=>.inl hb,fun k hk=>?_⟩
  have hne:k≠B:=fun e=>hk.2.2 (e ▸ ho)
  exact ⟨⟨by rw [c.size]; exact hk.1,hk.2.1,hk.2.2⟩,c.other k hne⟩
theorem RepH.upd (R : RepH w0 S φ h w) {b B cap len : Nat} (hb : φ b = some ⟨true, some B, cap, len⟩) {w' : World} (c : Chg w w' B) {blk : Blk} (hblk : BlkRep w' S φ (some B) cap len blk) :
    RepH w0 S φ (h.put b blk) w':=by
  have m:Mono w S φ w' S φ:=c.mono ⟨_,_,_,hb⟩
  refine ⟨?_,R.inj,fun k hk=>by rw [c.size]; exact R.rng k hk,?_,R.sb⟩
  · intro b' blk' hb'
    rw [Heap.get_put] at hb'
    split at hb'
    · rename_i e
      subst e
      cases hb'
      exact ⟨_,_,_,hb,hblk⟩
    · rename_i hne
      obtain ⟨B',cap',len',h1,h2⟩:=R.heap _ _ hb'
      refine ⟨B',cap',len',h1,h2.mono m fun k hk=>?_⟩
      subst hk
      refine c.other k fun e=>hne ?_
      subst e
      exact R.inj _ _ _ _ _ _ _ h1 hb
  · refine R.below.trans ⟨c.os,c.tape,c.output,by rw [c.size]; exact Nat.le_refl _,fun k hk=>c.other k fun e=>?_⟩
    subst e
    have:=(R.rng k ⟨_,_,_,hb⟩).1
    omega
theorem oneCell_reps {a:AV} {v:Value} (hr:Reps w S φ [a] [v]) (h:a.oneCell = true):v.oneCell' = true:=by
  cases hr with
  | any=>cases h
  | agg=>cases h
  | tup=>cases h
  | ptr h=>obtain ⟨s,B,h1,h2,rfl⟩:=h; rfl
  | rptr h=>obtain ⟨s,B,h1,h2,rfl⟩:=h; rfl
  | own h=>obtain ⟨s,h1,h2⟩:=h; obtain ⟨a,l,c,rfl⟩:=Slot.fits_slice h2; rfl
  | slc h =>
    obtain ⟨s,B,c,h1,h2,h3⟩:=h
    rcases h3 with ⟨_,a,rfl⟩ | ⟨_,_,rfl⟩ <;> rfl
  | map h=>obtain ⟨s,B,h1,h2,rfl⟩:=h; rfl
  | _=>rfl
theorem allOne_reps:∀ {as:List AV} {vs:List Value},Reps w S φ as vs→allOne as = true→∀ v ∈ vs,v.oneCell' = true
  | [],vs,hr,_,v,hv=>by cases hr.nil_inv; cases hv
  | a :: as,vs,hr,h,v,hv=>by
    obtain ⟨u,us,rfl,h1,h2⟩:=hr.uncons
    simp only [allOne,Bool.and_eq_true] at h
    rcases List.mem_cons.1 hv with rfl | hv
    · exact oneCell_reps h1 h.1
    · exact allOne_reps h2 h.2 v hv
theorem ne_any_of_one {v:AV} (h:allOne v.cells = true):v≠.any:=by
  rintro rfl
  simp [AV.cells,allOne,AV.oneCell] at h
theorem flatMap_upd {r : RTy} {xs : List r.carrier} {i : Int} (h0 : 0 ≤ i) (h1 : i < xs.length) (x : r.carrier) :
    ∃ a c,xs.flatMap r.enc = a ++ r.enc (rd r xs i) ++ c∧(upd r xs i x).flatMap r.enc = a ++ r.enc x ++ c∧a.length = i.toNat * r.size:=by
  have hn:i.toNat < xs.length:=by omega
  have e1:xs = xs.take i.toNat ++ rd r xs i :: xs.drop (i.toNat + 1):=by
    have:rd r xs i = xs[i.toNat]:=by simp [rd,hn]
    rw [this,List.getElem_cons_drop,List.take_append_drop]
  refine ⟨(xs.take i.toNat).flatMap r.enc,(xs.drop (i.toNat + 1)).flatMap r.enc,?_,?_,?_⟩
  · conv=>lhs; rw [e1]
    simp
  · unfold upd
    rw [List.set_eq_take_append_cons_drop,if_pos hn]
    simp
  · rw [flatMap_len,List.length_take,Nat.min_eq_left (by omega)]
theorem storeX_run (R : RepH w0 S φ h w) {t : TypeId} {a v : AV} {x y : Value} (ha : Reps w S φ [a] [x]) (hv : Reps w S φ [v] [y]) {Q : Heap → Prop} (hx : (storeX P t a v h).wp Q) :
    ∃ w' h',Q h'∧(Instr.storeAt t x y).run P w = .ok () w'∧RepH w0 S φ h' w'∧Mono w S φ w' S φ:=by
  unfold storeX at hx
  split at hx
  · exact hx.elim
  rename_i n hsz
  split at hx
  · rename_i hc
    obtain ⟨hlen,hone⟩:=hc
    have hcr:=cells_reps hv (ne_any_of_one hone)
    have hl:y.cells.size = n:=by have:=hcr.len; simp at this; omega
    have h1:=allOne_reps hcr hone
    have run : ∀ {g o : Nat} {cur : Array Value} {e : TypeId}, w.heap[g]? = some (.cells cur e (0, 0)) → o + n ≤ cur.size → x = .pointer (some ⟨g, o, none⟩) →
        (Instr.storeAt t x y).run P w = .ok () (w.setRow g (cur.toList.take o ++ y.cells.toList ++ cur.toList.drop (o + n)).toArray):=by
      intro g o cur e hg ho hx
      subst hx
      have hst:=run_storeCells_at P g o e y.cells.toList 0 cur w hg (by simp; omega) h1
      simp only [Nat.add_zero,Array.length_toList,hl] at hst
      simp [Instr.storeAt,Instr.sureAddr,storeVar,szOf_run hsz,hl,hst]
    split at hx
    · rename_i b off
      split at hx
      · rename_i cs hg
        split at hx
        · rename_i hle
          cases ha with
          | ptr ha =>
            obtain ⟨s,B,hs1,hs2,rfl⟩:=ha
            obtain ⟨B',cap,len,hb,B'',us,e,rfl,h5,h6,h7⟩:=R.heap _ _ hg
            rw [hs1] at hb
            cases hb
            cases hs2
            have hul:cs.length = us.size:=by simpa using h7.len
            have c:=Chg.setRow w B (us.toList.take off ++ y.cells.toList ++ us.toList.drop (off + n)).toArray
            have m:Mono w S φ _ S φ:=c.mono ⟨_,_,_,hs1⟩
            refine ⟨_,_,hx,run h5 (by omega) rfl,R.upd hs1 c ⟨B,_,e,rfl,setRow_heap w B us _ e _ h5,?_,?_⟩,m⟩
            · simp only [List.size_toArray,List.length_append,List.length_take,List.length_drop,Array.length_toList]
              omega
            · have:=((h7.take off).app hcr).app (h7.drop (off + n))
              rw [← hlen] at this
              simpa [overlay,hlen] using this.mono m
        · exact hx.elim
      · exact hx.elim
    · rename_i b r i off
      split at hx
      · rename_i r' e xs hg
        split at hx
        · rename_i hc
          obtain ⟨hle,rfl⟩:=hc
          split at hx
          · rename_i x' hdec
            obtain ⟨⟨hi0,hi1⟩,hx⟩:=hx
            cases ha with
            | rptr ha =>
              obtain ⟨s,B,hs1,hs2,rfl⟩:=ha
              obtain ⟨B',cap,len,hb,rfl,us,⟨h40,h4⟩,h5,h6⟩:=R.heap _ _ hg
              rw [hs1] at hb
              cases hb
              cases hs2
              rcases h4 with ⟨h4,_⟩ | ⟨g,cap',cur,h4,_,h8,h9,h10,h11,h12⟩
              · simp [baseOf] at h4
              · simp [baseOf] at h4
                obtain ⟨rfl,rfl⟩:=h4
                obtain ⟨A,D,e1,e2,e3⟩:=flatMap_upd hi0 hi1 x'
                rw [e1] at h5
                obtain ⟨u1,u3,rfl,h13,h14⟩:=h5.unapp
                obtain ⟨u1,u2,rfl,h15,h16⟩:=h13.unapp
                have l1:u1.length = i.toNat * r'.size:=by rw [← e3]; exact h15.len.symm
                have l2:u2.length = r'.size:=by rw [← h16.len,enc_len]
                have l3:y.cells.toList.length = n:=by simpa using hl
                have lall:u1.length + u2.length + u3.length = xs.length * r'.size:=by simpa [Nat.add_assoc] using h40
                have hcl:xs.length * r'.size≤cur.size:=by rw [h11]; exact Nat.mul_le_mul_right _ h9
                have hcur:cur.toList = u1 ++ u2 ++ u3 ++ cur.toList.drop (xs.length * r'.size):=by rw [← h12,List.take_append_drop]
                have c:=Chg.setRow w B (cur.toList.take (i.toNat * r'.size + off) ++ y.cells.toList ++ cur.toList.drop (i.toNat * r'.size + off + n)).toArray
                have m:Mono w S φ _ S φ:=c.mono ⟨_,_,_,hs1⟩
                have enew : cur.toList.take (i.toNat * r'.size + off) ++ y.cells.toList ++ cur.toList.drop (i.toNat * r'.size + off + n) =
                    u1 ++ (u2.take off ++ y.cells.toList ++ u2.drop (off + n)) ++ u3 ++ cur.toList.drop (xs.length * r'.size):=by
                  generalize cur.toList.drop (xs.length * r'.size) = rest at hcur
                  rw [hcur,← l1]
                  simp only [List.append_assoc]
                  rw [show u1.length + off = u1.length + off from rfl,List.take_length_add_append,Nat.add_assoc,List.drop_length_add_append]
                  rw [List.take_append_of_le_length (by omega),List.drop_append_of_le_length (by omega)]
                  simp
                have hrow:Reps w S φ (overlay (r'.enc (rd r' xs i)) off v.cells) (u2.take off ++ y.cells.toList ++ u2.drop (off + n)):=by
                  have:=((h16.take off).app hcr).app (h16.drop (off + n))
                  rw [← hlen] at this
                  simpa [overlay,hlen] using this
                have hrow':=dec_reps hdec hrow
                have lrow:(u2.take off ++ y.cells.toList ++ u2.drop (off + n)).length = r'.size:=by
                  rw [← hrow'.len,enc_len]
                refine ⟨_,_,hx,run (o:=i.toNat * r'.size + off) h8 (by omega) rfl,
                  R.upd hs1 c ⟨by simp [upd],u1 ++ (u2.take off ++ y.cells.toList ++ u2.drop (off + n)) ++ u3,⟨?_,.inr ⟨B,cap,_,rfl,Nat.zero_le _,setRow_heap w B cur _ e _ h8,h9,h10,?_,?_⟩⟩,?_,?_⟩,m⟩
                · simp only [List.length_append] at lrow ⊢
                  omega
                · rw [enew]
                  simp only [List.size_toArray,List.length_append,List.length_drop,Array.length_toList] at lrow ⊢
                  rw [← h11]
                  omega
                · rw [enew]
                  have:(u1 ++ (u2.take off ++ y.cells.toList ++ u2.drop (off + n)) ++ u3).length = xs.length * r'.size:=by
                    simp only [List.length_append] at lrow ⊢
                    omega
                  rw [List.toList_toArray,← this,List.take_left]
                · rw [e2]
                  exact ((h15.app hrow').app h14).mono m
                · intro u hu
                  simp only [List.mem_append] at hu
                  rcases hu with (hu | (hu | hu) | hu) | hu
                  · exact h6 u (by simp [hu])
                  · exact h6 u (by simp [List.mem_of_mem_take hu])
                  · exact h1 u hu
                  · exact h6 u (by simp [List.mem_of_mem_drop hu])
                  · exact h6 u (by simp [hu])
          · exact hx.elim
        · exact hx.elim
      · exact hx.elim
    · exact hx.elim
  · exact hx.elim
theorem mput_rep {r : RTy} {k : Int} {y : r.carrier} {v : Value} (hv : ValRep w S φ r y v) : ∀ {es : List (Int × r.carrier)} {ms : List MapEntry} (i : Nat) (born : Nat), IMapRep w S φ r es ms →
    ∃ q,Instr.findNow (.int .i64) (.int .i64 k) ms i = some q ∧
      match q with
      | none=>IMapRep w S φ r (mput es k y) (ms ++ [{ key:=.int .i64 k,val:=v,born:=born }])
      | some (j,_)=>∃ m,i≤j∧ms[j - i]? = some m∧m.key = .int .i64 k∧IMapRep w S φ r (mput es k y) (ms.set (j - i) { m with key:=.int .i64 k,val:=v })
  | [],[],i,born,_=>⟨none,rfl,rfl,hv,trivial⟩
  | (j,x) :: es,m :: ms,i,born,⟨e2,h2,h3⟩=>by
    unfold mput
    by_cases hj:j = k
    · subst hj
      refine ⟨some (i,m.val),by simp [Instr.findNow,Instr.sameNow,e2],m,Nat.le_refl _,by simp,e2,?_⟩
      simp only [Nat.sub_self,if_true,List.set_cons_zero]
      exact ⟨rfl,hv,h3⟩
    · obtain ⟨q,h4,h5⟩:=mput_rep (k:=k) hv (i + 1) born h3
      have:(k == j) = false:=by simpa using fun e=>hj e.symm
      refine ⟨q,by simp [Instr.findNow,Instr.sameNow,e2,this,h4],?_⟩
      cases q with
      | none=>simp only [hj,if_false]; exact ⟨e2,h2,h5⟩
      | some p =>
        obtain ⟨l,u⟩:=p
        obtain ⟨m',h6,h7,h8,h9⟩:=h5
        refine ⟨m',by omega,?_,h8,?_⟩
        · rw [show l - i = (l - (i + 1)) + 1 by omega]; simpa using h7
        · rw [show l - i = (l - (i + 1)) + 1 by omega]
          simp only [hj,if_false,List.set_cons_succ]
          exact ⟨e2,h2,h9⟩
theorem mdel_rep {r : RTy} {k : Int} : ∀ {es : List (Int × r.carrier)} {ms : List MapEntry} (i : Nat), IMapRep w S φ r es ms →
    ∃ q,Instr.findNow (.int .i64) (.int .i64 k) ms i = some q ∧
      match q with
      | none=>IMapRep w S φ r (mdel es k) ms
      | some (j,_)=>i≤j∧j - i < ms.length∧IMapRep w S φ r (mdel es k) (ms.eraseIdx (j - i))
  | [],[],i,_=>⟨none,rfl,trivial⟩
  | (j,x) :: es,m :: ms,i,⟨e2,h2,h3⟩=>by
    unfold mdel
    by_cases hj:j = k
    · subst hj
      refine ⟨some (i,m.val),by simp [Instr.findNow,Instr.sameNow,e2],Nat.le_refl _,by simp,?_⟩
      simpa using h3
    · obtain ⟨q,h4,h5⟩:=mdel_rep (k:=k) (i + 1) h3
      have:(k == j) = false:=by simpa using fun e=>hj e.symm
      refine ⟨q,by simp [Instr.findNow,Instr.sameNow,e2,this,h4],?_⟩
      cases q with
      | none=>simp only [hj,if_false]; exact ⟨e2,h2,h5⟩
      | some p =>
        obtain ⟨l,u⟩:=p
        obtain ⟨h6,h7,h9⟩:=h5
        refine ⟨by omega,by simp; omega,?_⟩
        rw [show l - i = (l - (i + 1)) + 1 by omega]
        simp only [hj,if_false,List.eraseIdx_cons_succ]
        exact ⟨e2,h2,h9⟩
theorem lput_rep {k : Int} {y : AV} {v : Value} (hv : Reps w S φ [y] [v]) : ∀ {es es' : List (AV × AV)} {ms : List MapEntry} (i : Nat) (born : Nat), LMapRep w S φ es ms → lput es k y = some es' →
    Instr.findNow (.int .i64) (.int .i64 k) ms i = some none∧LMapRep w S φ es' (ms ++ [{ key:=.int .i64 k,val:=v,born:=born }])
  | [],es',[],i,born,_,h=>by
    cases h
    exact ⟨rfl,⟨k,rfl,rfl⟩,hv,trivial⟩
  | (kk,x) :: es,es',m :: ms,i,born,⟨⟨j,e1,e2⟩,h2,h3⟩,h=>by
    subst e1
    unfold lput at h
    split at h
    · cases h
    · rename_i hj
      split at h
      · rename_i l hl
        cases h
        obtain ⟨h4,h5⟩:=lput_rep hv (i + 1) born h3 hl
        have:(k == j) = false:=by simpa using fun e=>hj e.symm
        exact ⟨by simp [Instr.findNow,Instr.sameNow,e2,this,h4],⟨j,rfl,e2⟩,h2,h5⟩
      · cases h
theorem getObj_run {B:Nat} {ms:Array MapEntry} {clock:Nat} (hb:w.heap[B]? = some (.map ms clock)):(getObj B).run P w = .ok (.map ms clock) w:=by simp [getObj,Sem.run,hb]
theorem setObj_run {B:Nat} {ms:Array MapEntry} {clock:Nat} (o:Obj) (hb:w.heap[B]? = some (.map ms clock)):(setObj B o).run P w = .ok () { w with heap:=w.heap.setIfInBounds B o }:=by simp [setObj,Sem.run,hb]
theorem keyStays_run (i:Int):(Instr.keyThatStays (.int .i64 i) (.int .i64 i)).run P w = .ok (.int .i64 i) w:=by simp [Instr.keyThatStays,Instr.sameBits]
theorem heap_setIn {B:Nat} {o o':Obj} (hb:w.heap[B]? = some o):({ w with heap:=w.heap.setIfInBounds B o' }:World).heap[B]? = some o':=by
  have hlt:B < w.heap.size:=(Array.getElem?_eq_some_iff.1 hb).1
  simp [hlt]
def updObj (q:Option (Nat × Value)) (ms:Array MapEntry) (clock:Nat) (i:Int) (v:Value):Obj :=
  match q with
  | none=>.map (ms.push { key:=.int .i64 i,val:=v,born:=clock }) (clock + 1)
  | some (j,_)=>.map (ms.modify j fun e=>{ e with key:=.int .i64 i,val:=v }) clock
def delObj (q:Option (Nat × Value)) (ms:Array MapEntry) (clock:Nat):Obj :=
  match q with
  | none=>.map ms clock
  | some (j,_)=>.map (ms.eraseIdxIfInBounds j) clock
theorem mapUpd_run {t kt e : TypeId} {B : Nat} {ms : Array MapEntry} {clock : Nat} {i : Int} {v : Value} {q : Option (Nat × Value)} (hu : P.underlying t = some (.map kt e)) (hk : P.underlying kt = some (.int .i64))
    (h4:w.heap[B]? = some (.map ms clock)) (h6:Instr.findNow (.int .i64) (.int .i64 i) ms.toList 0 = some q) (hm:∀ j u,q = some (j,u)→∃ m,ms.toList[j]? = some m∧m.key = .int .i64 i) :
    (Instr.mapUpdate t (.map (some B)) (.int .i64 i) v).run P w = .ok () { w with heap:=w.heap.setIfInBounds B (updObj q ms clock i v) }:=by
  have hck:=checkKey_run P w hk false 9999 i
  have hfk:(Instr.findKey kt (.int .i64 i) ms.toList).run P w = .ok q w:=by simp [Instr.findKey,und_run hk,h6]
  cases q with
  | none=>simp [Instr.mapUpdate,und_run hu,getObj_run h4,hck,hfk,setObj_run _ h4,updObj]
  | some p =>
    obtain ⟨j,u⟩:=p
    obtain ⟨m,hm1,hm2⟩:=hm j u rfl
    have hm1':ms[j]? = some m:=by simpa using hm1
    simp [Instr.mapUpdate,und_run hu,getObj_run h4,hck,hfk,hm1',hm2,keyStays_run,setObj_run _ h4,updObj]
theorem mapUpdX_run (R : RepH w0 S φ h w) {t : TypeId} {m k v : AV} {x y z : Value} (hm : Reps w S φ [m] [x]) (hk : Reps w S φ [k] [y]) (hv : Reps w S φ [v] [z]) {Q : Heap → Prop} (hx : (mapUpdX P t m k v h).wp Q) :
    ∃ w' h',Q h'∧(Instr.mapUpdate t x y z).run P w = .ok () w'∧RepH w0 S φ h' w'∧Mono w S φ w' S φ:=by
  unfold mapUpdX at hx
  split at hx
  · rename_i kt e b l i hu hn
    cases num_inv hn hk
    split at hx
    · rename_i hkt
      cases hm with
      | map ha =>
        obtain ⟨s,B,hs1,hs2,rfl⟩:=ha
        split at hx
        · rename_i r es hg
          obtain ⟨B',cap,len,hb,B'',ms,clock,rfl,h5,h6⟩:=R.heap _ _ hg
          rw [hs1] at hb
          cases hb
          cases hs2
          split at hx
          · rename_i y hd
            split at hx
            · rename_i hc
              obtain ⟨hone,hagg⟩:=hc
              have hval:=val_of_cells hv hd hagg
              obtain ⟨q,h7,h8⟩:=mput_rep (k:=i) hval 0 clock h6
              have hq:∀ j u,q = some (j,u)→∃ m,ms.toList[j]? = some m∧m.key = .int .i64 i:=by
                rintro j u rfl
                obtain ⟨m,_,h9,h10,_⟩:=h8
                exact ⟨m,by simpa using h9,h10⟩
              have hrun:=mapUpd_run (v:=z) hu hkt h5 h7 hq
              have c:=Chg.setObj w B (updObj q ms clock i z)
              have mo:Mono w S φ _ S φ:=c.mono ⟨_,_,_,hs1⟩
              refine ⟨_,_,hx,hrun,R.upd hs1 c ?_,mo⟩
              cases q with
              | none=>exact ⟨B,_,_,rfl,heap_setIn h5,by simpa using h8.mono mo⟩
              | some p =>
                obtain ⟨j,u⟩:=p
                obtain ⟨m,_,h9,h10,h11⟩:=h8
                refine ⟨B,_,_,rfl,heap_setIn h5,?_⟩
                have e:(ms.modify j fun e=>{ e with key:=.int .i64 i,val:=z }).toList = ms.toList.set (j - 0) { m with key:=.int .i64 i,val:=z }:=by
                  apply List.ext_getElem?
                  intro l
                  simp only [Nat.sub_zero] at h9
                  simp only [Array.getElem?_toList,Array.getElem?_modify,List.getElem?_set,Nat.sub_zero]
                  by_cases hjl:j = l
                  · subst hjl
                    simp at h9
                    obtain ⟨hlt,h12⟩:=Array.getElem?_eq_some_iff.1 h9
                    simp [hlt,h12]
                  · simp [hjl]
                rw [e]
                exact h11.mono mo
            · exact hx.elim
          · exact hx.elim
        · rename_i es hg
          obtain ⟨B',cap,len,hb,B'',ms,clock,rfl,h5,h6⟩:=R.heap _ _ hg
          rw [hs1] at hb
          cases hb
          cases hs2
          split at hx
          · rename_i es' hl
            split at hx
            · obtain ⟨h7,h8⟩:=lput_rep hv 0 clock h6 hl
              have hrun:=mapUpd_run (v:=z) hu hkt h5 h7 (by simp)
              have c:=Chg.setObj w B (.map (ms.push { key:=.int .i64 i,val:=z,born:=clock }) (clock + 1))
              have mo:Mono w S φ _ S φ:=c.mono ⟨_,_,_,hs1⟩
              exact ⟨_,_,hx,hrun,R.upd hs1 c ⟨B,_,_,rfl,heap_setIn h5,by simpa using h8.mono mo⟩,mo⟩
            · exact hx.elim
          · exact hx.elim
        · exact hx.elim
    · exact hx.elim
  · exact hx.elim
theorem delX_run (R : RepH w0 S φ h w) {t : TypeId} {m k : AV} {x y : Value} (hm : Reps w S φ [m] [x]) (hk : Reps w S φ [k] [y]) {Q : Heap → Prop} (hx : (delX P t m k h).wp Q) (ts : Array TypeId) (ht : ts[0]? = some t) (ty : TypeId) :
    ∃ w' h',Q h'∧(Builtin.delete_ ts ty #[x,y]).run P w = .ok (.tuple #[]) w'∧RepH w0 S φ h' w'∧Mono w S φ w' S φ:=by
  unfold delX at hx
  split at hx
  · rename_i kt e b l i hu hn
    cases num_inv hn hk
    split at hx
    · rename_i hkt
      cases hm with
      | map ha =>
        obtain ⟨s,B,hs1,hs2,rfl⟩:=ha
        split at hx
        · rename_i r es hg
          obtain ⟨B',cap,len,hb,B'',ms,clock,rfl,h5,h6⟩:=R.heap _ _ hg
          rw [hs1] at hb
          cases hb
          cases hs2
          obtain ⟨q,h7,h8⟩:=mdel_rep (k:=i) 0 h6
          have hck:=checkKey_run P w hkt ms.isEmpty 9999 i
          have hfk:(Instr.findKey kt (.int .i64 i) ms.toList).run P w = .ok q w:=by simp [Instr.findKey,und_run hkt,h7]
          have c:=Chg.setObj w B (delObj q ms clock)
          have mo:Mono w S φ _ S φ:=c.mono ⟨_,_,_,hs1⟩
          refine ⟨_,_,hx,?_,R.upd hs1 c ?_,mo⟩
          · cases q with
            | none=>simp [Builtin.delete_,ht,und_run hu,getObj_run h5,hck,hfk,setObj_run _ h5,delObj]
            | some p=>obtain ⟨j,u⟩:=p; simp [Builtin.delete_,ht,und_run hu,getObj_run h5,hck,hfk,setObj_run _ h5,delObj]
          · cases q with
            | none=>exact ⟨B,_,_,rfl,heap_setIn h5,h8.mono mo⟩
            | some p =>
              obtain ⟨j,u⟩:=p
              obtain ⟨_,h9,h10⟩:=h8
              refine ⟨B,_,_,rfl,heap_setIn h5,?_⟩
              have hlt:j < ms.size:=by simpa using h9
              have e:(ms.eraseIdxIfInBounds j).toList = ms.toList.eraseIdx (j - 0):=by simp [Array.eraseIdxIfInBounds,hlt]
              rw [e]
              exact h10.mono mo
        · exact hx.elim
    · exact hx.elim
  · exact hx.elim
end
end Go.Fx
namespace Go.Fx
open Go Go.RowKit
def killO (φ:Env):Option Nat→Env
  | none=>φ
  | some b=>fun j=>if j = b then (φ b).map Slot.kill else φ j
def movedE (φ:Env) (k:Option Nat) (g:Nat) (s:Slot):Env:=updE (killO φ k) g s
structure Moved (w w':World) (φ:Env) (k Bn:Option Nat):Prop where
  os:w'.os = w.os
  tape:w'.tape = w.tape
  output:w'.output = w.output
  same:∀ j,j < w.heap.size→Bn≠some j→(∀ b cap len,k = some b→φ b≠some ⟨true,some j,cap,len⟩)→w'.heap[j]? = w.heap[j]?
  at_:∀ B,Bn = some B→B < w'.heap.size∧(w.heap.size≤B∨∃ b cap len,k = some b∧φ b = some ⟨true,some B,cap,len⟩)
section
variable {P:Program} {w0 w w':World} {S:Nat→Prop} {φ:Env} {h:Heap} {k Bn:Option Nat} {g cap len:Nat}
theorem killO_own {id B c n:Nat} (hid:killO φ k id = some ⟨true,some B,c,n⟩):φ id = some ⟨true,some B,c,n⟩∧k≠some id:=by
  unfold killO at hid
  split at hid
  · exact ⟨hid,by simp⟩
  · rename_i b
    split at hid
    · rename_i e
      cases hb:φ b with
      | none=>simp [hb] at hid
      | some s=>simp [hb,Slot.kill] at hid
    · rename_i e
      exact ⟨hid,by simpa using fun e'=>e e'.symm⟩
theorem killO_dom {id:Nat} {s:Slot} (hid:φ id = some s):killO φ k id = some s∨killO φ k id = some s.kill:=by
  unfold killO
  split
  · exact .inl hid
  · rename_i b
    split
    · rename_i e; subst e; right; simp [hid]
    · exact .inl hid
theorem killO_none {id:Nat} (hid:φ id = none):killO φ k id = none:=by
  unfold killO
  split
  · exact hid
  · rename_i b
    split
    · rename_i e; subst e; simp [hid]
    · exact hid
theorem movedE_own {id B c n:Nat} {s:Slot} (hid:movedE φ k g s id = some ⟨true,some B,c,n⟩):(id = g∧s = ⟨true,some B,c,n⟩)∨(φ id = some ⟨true,some B,c,n⟩∧k≠some id∧id≠g):=by
  unfold movedE updE at hid
  split at hid
  · rename_i e; exact .inl ⟨e,by simpa using hid⟩
  · rename_i e
    obtain ⟨h1,h2⟩:=killO_own hid
    exact .inr ⟨h1,h2,e⟩
theorem Moved.lt (m:Moved w w' φ k Bn) {j:Nat} (hj:j < w.heap.size) (h1:Bn≠some j) (h2:∀ b cap len,k = some b→φ b≠some ⟨true,some j,cap,len⟩):j < w'.heap.size:=by
  have h:=m.same j hj h1 h2
  rw [Array.getElem?_eq_getElem hj] at h
  exact (Array.getElem?_eq_some_iff.1 h).1
theorem Moved.mono (m:Moved w w' φ k Bn) (hg:φ g = none):Mono w S φ w' S (movedE φ k g ⟨true,Bn,cap,len⟩):=by
  refine ⟨fun b s hb=>?_,fun B hB=>?_⟩
  · have hne:b≠g:=fun e=>by subst e; rw [hg] at hb; cases hb
    unfold movedE
    rw [updE_ne _ _ hne]
    exact killO_dom hb
  · have hne:Bn≠some B:=by
      intro e
      rcases (m.at_ B e).2 with h1 | ⟨b,c,l,_,h1⟩
      · have:=hB.1; omega
      · exact hB.2.2 ⟨_,_,_,h1⟩
    have hno:∀ b cap len,k = some b→φ b≠some ⟨true,some B,cap,len⟩:=fun b c l _ e=>hB.2.2 ⟨_,_,_,e⟩
    refine ⟨⟨m.lt hB.1 hne hno,hB.2.1,?_⟩,m.same B hB.1 hne hno⟩
    rintro ⟨id,c,l,hid⟩
    rcases movedE_own hid with ⟨_,h1⟩ | ⟨h1,_⟩
    · simp at h1; exact hne h1.1
    · exact hB.2.2 ⟨_,_,_,h1⟩
theorem Moved.rep (R : RepH w0 S φ h w) (m : Moved w w' φ k Bn) (hg : φ g = none) {blk : Blk} (hblk : BlkRep w' S (movedE φ k g ⟨true, Bn, cap, len⟩) Bn cap len blk) :
    RepH w0 S (movedE φ k g ⟨true,Bn,cap,len⟩) ((delOpt h k).ins g blk) w':=by
  have mo:Mono w S φ w' S (movedE φ k g ⟨true,Bn,cap,len⟩):=m.mono hg
  have hgn:(delOpt h k).get g = none:=by
    have h1:h.get g = none:=by
      cases hgg:h.get g with
      | none=>rfl
      | some b=>obtain ⟨_,_,_,h2,_⟩:=R.heap _ _ hgg; rw [hg] at h2; cases h2
    cases k with
    | none=>exact h1
    | some b=>simp [delOpt,Heap.get_del,h1]
  have hsame:∀ {id B c l:Nat},φ id = some ⟨true,some B,c,l⟩→k≠some id→Bn≠some B:=by
    intro id B c l h1 h2 e
    rcases (m.at_ B e).2 with h3 | ⟨b,c',l',h3,h4⟩
    · have:=R.get_lt h1; omega
    · have:=R.inj _ _ _ _ _ _ _ h1 h4
      subst this
      exact h2 h3
  have hkn:∀ {id B c l:Nat},φ id = some ⟨true,some B,c,l⟩→k≠some id→∀ b cap len,k = some b→φ b≠some ⟨true,some B,cap,len⟩:=by
    intro id B c l h1 h2 b c' l' h3 h4
    have:=R.inj _ _ _ _ _ _ _ h1 h4
    subst this
    exact h2 h3
  have hlow:∀ j,j < w0.heap.size→Bn≠some j∧∀ b cap len,k = some b→φ b≠some ⟨true,some j,cap,len⟩:=by
    intro j hj
    refine ⟨fun e=>?_,fun b c l _ h6=>?_⟩
    · rcases (m.at_ j e).2 with h6 | ⟨b,c',l',_,h6⟩
      · have:=R.below.size; omega
      · have:=(R.rng j ⟨_,_,_,h6⟩).1; omega
    · have:=(R.rng j ⟨_,_,_,h6⟩).1; omega
  refine ⟨?_,?_,?_,?_,R.sb⟩
  · intro id b hb
    rw [Heap.get_ins blk id hgn] at hb
    split at hb
    · rename_i e
      subst e
      cases hb
      exact ⟨_,_,_,updE_self _ _ _,hblk⟩
    · rename_i hne
      have hb':h.get id = some b∧k≠some id:=by
        cases k with
        | none=>exact ⟨hb,by simp⟩
        | some b' =>
          simp only [delOpt,Heap.get_del] at hb
          split at hb
          · cases hb
          · rename_i e; exact ⟨hb,by simpa using fun e'=>e e'.symm⟩
      obtain ⟨B,c,l,h1,h2⟩:=R.heap _ _ hb'.1
      refine ⟨B,c,l,?_,h2.mono mo fun j hj=>?_⟩
      · unfold movedE
        rw [updE_ne _ _ hne]
        unfold killO
        split
        · exact h1
        · rename_i b' 
          have:id≠b':=by simpa using fun e'=>hb'.2 (by rw [e'])
          simp [this,h1]
      · subst hj
        exact m.same j (R.get_lt h1) (hsame h1 hb'.2) (hkn h1 hb'.2)
  · intro b b' B c n c' n' h1 h2
    rcases movedE_own h1 with ⟨e1,h3⟩ | ⟨h3,h4,_⟩ <;> rcases movedE_own h2 with ⟨e2,h5⟩ | ⟨h5,h6,_⟩
    · rw [e1,e2]
    · simp at h3; exact absurd h3.1 (hsame h5 h6)
    · simp at h5; exact absurd h5.1 (hsame h3 h4)
    · exact R.inj _ _ _ _ _ _ _ h3 h5
  · rintro B ⟨id,c,l,hid⟩
    rcases movedE_own hid with ⟨e1,h3⟩ | ⟨h3,h4,_⟩
    · simp at h3
      have h5:=m.at_ B h3.1
      refine ⟨?_,h5.1⟩
      rcases h5.2 with h6 | ⟨b,c',l',_,h6⟩
      · exact Nat.le_trans R.below.size h6
      · exact (R.rng B ⟨_,_,_,h6⟩).1
    · have:=R.rng B ⟨_,_,_,h3⟩
      exact ⟨this.1,m.lt this.2 (hsame h3 h4) (hkn h3 h4)⟩
  · have hs:=R.below.size
    refine ⟨m.os.trans R.below.os,m.tape.trans R.below.tape,m.output.trans R.below.output,?_,fun j hj=>(m.same j (Nat.lt_of_lt_of_le hj hs) (hlow j hj).1 (hlow j hj).2).trans (R.below.block j hj)⟩
    rcases Nat.eq_zero_or_pos w0.heap.size with h0 | h0
    · rw [h0]; exact Nat.zero_le _
    · have hj:w0.heap.size - 1 < w0.heap.size:=by omega
      have:=m.lt (j:=w0.heap.size - 1) (by omega) (hlow _ hj).1 (hlow _ hj).2
      omega
theorem enc_one (r:RTy) (x:r.carrier):allOne (r.enc x) = true:=by cases r <;> rfl
theorem allOne_app:∀ as bs:List AV,allOne (as ++ bs) = (allOne as && allOne bs)
  | [],bs=>by simp [allOne]
  | a :: as,bs=>by simp [allOne,allOne_app as bs,Bool.and_assoc]
theorem flatMap_one (r:RTy):∀ xs:List r.carrier,allOne (xs.flatMap r.enc) = true
  | []=>rfl
  | x :: xs=>by simp [List.flatMap_cons,allOne_app,enc_one,flatMap_one r xs]
theorem src_run {look : Nat → Option Blk} (HL : HeapRep w S φ look) {r : RTy} {x : AV} {ys : List r.carrier} {xv : Value} (h : srcRows look r x = some ys) (hx : Reps w S φ [x] [xv]) :
    (ys = []∧∃ a c,xv = .slice a 0 c)∨∃ B o c us,xv = .slice (some ⟨B,o,none⟩) ys.length c∧cellsAt w B o us∧Reps w S φ (ys.flatMap r.enc) us:=by
  have hview:∀ {v:AV} {xs:List r.carrier},castView r v = some xs→Reps w S φ [v] [xv]→(xs = []∧∃ a c,xv = .slice a 0 c)∨∃ B o c us,xv = .slice (some ⟨B,o,none⟩) xs.length c∧cellsAt w B o us∧Reps w S φ (xs.flatMap r.enc) us:=by
    intro v xs h hr
    unfold castView at h
    split at h
    · obtain ⟨rfl,rfl⟩:=castL_inv h
      cases hr with
      | view0 _ _ hx0 a c=>exact .inl ⟨hx0,a,c,rfl⟩
      | view _ _ c _ hs hc hr=>exact .inr ⟨_,_,c,_,rfl,hc,hr⟩
    · cases h
      cases hr with
      | nils a=>exact .inl ⟨rfl,a,0,rfl⟩
    · cases h
  unfold srcRows at h
  split at h
  · rename_i b
    split at h
    · rename_i r' e xs hl
      obtain ⟨rfl,rfl⟩:=castL_inv h
      cases hx with
      | own hx =>
        obtain ⟨s,h1,h2⟩:=hx
        obtain ⟨B',cap,len,h3,rfl,us,h4,h5,h6⟩:=HL _ _ hl
        rw [h1] at h3
        cases h3
        cases B' with
        | none =>
          obtain ⟨a0,rfl⟩:∃ a,xv = .slice a 0 0:=h2
          rcases h4.2 with ⟨h7,h8⟩ | ⟨g,c,cur,hv,_⟩
          · exact .inl ⟨List.eq_nil_of_length_eq_zero h8,a0,0,rfl⟩
          · simp [baseOf] at hv
        | some B =>
          simp only [Slot.fits] at h2
          subst h2
          exact .inr ⟨B,0,cap,us,rfl,ownsRow_cells h4,h5⟩
    · cases h
  · rename_i b off n sz
    split at h
    · rename_i cs hl
      split at h
      · rename_i hc
        obtain ⟨rfl,hle⟩:=hc
        cases hx with
        | slc hx =>
          obtain ⟨s,B,c,h1,h2,h3⟩:=hx
          obtain ⟨B',cap,len,h4,B'',us,e,rfl,h5,h6,h7⟩:=HL _ _ hl
          rw [h1] at h4
          cases h4
          cases h2
          obtain ⟨h8,h9⟩:=decRows_reps h ((h7.drop off).take (n * r.size))
          subst h8
          rcases h3 with ⟨h3,a,rfl⟩ | ⟨h3,_,rfl⟩
          · exact .inl ⟨List.eq_nil_of_length_eq_zero h3,a,c,rfl⟩
          · exact .inr ⟨B,off,c,_,rfl,by have:=((cellsAt_block h5).drop off).take (ys.length * r.size); simpa using this,h9⟩
      · cases h
    · cases h
  · rename_i v _ _
    unfold AV.asView at h
    split at h
    · rename_i n cs
      cases hx with
      | lv0 a c =>
        unfold decRows at h
        split at h
        · cases h; exact .inl ⟨rfl,a,c,rfl⟩
        · cases h
      | lv n' c _ hs hc hr =>
        obtain ⟨h8,h9⟩:=decRows_reps h hr
        subst h8
        exact .inr ⟨_,_,c,_,rfl,hc,h9⟩
    · exact hview h hx
theorem append_nothing {t ty e : TypeId} {i : TypeInfo} (ht : P.underlying t = some (.slice e)) (hi : P.info? e = some i) (a a' : Option Addr) (n c c' : Nat) (hle : n ≤ c) :
    (Builtin.append_ #[t,t] ty #[.slice a n c,.slice a' 0 c']).run P w = .ok (.slice a n c) w:=by
  have e1:(Builtin.firstCells i.size 0 (.slice a' 0 c')).run P w = .ok #[] w:=by
    cases a' <;> simp [Builtin.firstCells,loadCells,loadCellsFrom]
  cases a <;> simp [Builtin.append_,run_underlying ht,sizeOf,typeInfo,hi,Builtin.lenOf,hle,e1,storeCells]
structure AppPost (w:World) (S:Nat→Prop) (φ:Env) (k:Option Nat) (g:Nat) (blk:Blk) (x:Value) (w':World) (Bn:Option Nat) (cap len:Nat):Prop where
  moved:Moved w w' φ k Bn
  fits:Slot.fits ⟨true,Bn,cap,len⟩ x
  blk:BlkRep w' S (movedE φ k g ⟨true,Bn,cap,len⟩) Bn cap len blk
theorem grown_post {r : RTy} {e : TypeId} (hg : φ g = none) {xs : List r.carrier} {us : List Value} (hu : Reps w S φ (xs.flatMap r.enc) us)
    {z:Value} (hzs:z.cells.size = r.size) {cap:Nat} (hc:xs.length≤cap) (hcm:cap≤maxLen) :
    AppPost w S φ k g (.rows r e xs) (.slice (some ⟨w.heap.size,0,none⟩) xs.length cap) (w.drew.alloc (.cells (us.toArray ++ Builtin.zeroCells z.cells (cap - xs.length)) e)) (some w.heap.size) cap xs.length:=by
  have m:Moved w (w.drew.alloc (.cells (us.toArray ++ Builtin.zeroCells z.cells (cap - xs.length)) e)) φ k (some w.heap.size):=by
    refine ⟨rfl,rfl,rfl,fun j hj _ _=>heap_alloc_old w.drew _ (r:=j) hj,fun B hB=>?_⟩
    cases hB
    exact ⟨by simp,.inl (Nat.le_refl _)⟩
  have hul:us.length = xs.length * r.size:=by rw [← hu.len,flatMap_len]
  refine ⟨m,rfl,rfl,us,⟨hul,.inr ⟨w.heap.size,cap,_,rfl,Nat.zero_le _,heap_alloc_new w.drew _,hc,hcm,?_,?_⟩⟩,hu.mono (m.mono hg),allOne_reps hu (flatMap_one r xs)⟩
  · simp only [Array.size_append,List.size_toArray,size_zeroCells,hzs,hul,← Nat.add_mul]
    congr 1
    omega
  · simp only [Array.toList_append]
    rw [← hul]
    exact List.take_left
structure ElemOK (P:Program) (t e:TypeId) (r:RTy) (inf:TypeInfo) (zv:Value):Prop where
  und:P.underlying t = some (.slice e)
  info:P.info? e = some inf
  zero:inf.zero = some zv
  size:inf.size = r.size
  zsize:zv.cells.size = r.size
  bytes:0 < inf.bytes
theorem ElemOK.small {t e:TypeId} {r:RTy} {inf:TypeInfo} {zv:Value} (E:ElemOK P t e r inf zv) {n:Nat} (hn:n * inf.bytes≤140737488355328):n≤maxLen:=by
  have:n * 1≤n * inf.bytes:=Nat.mul_le_mul_left _ E.bytes
  simp only [maxLen]
  omega
theorem cellsAt.add {B o:Nat} {us:List Value} (h:cellsAt w B o us):∀ j u,us[j]? = some u→w.cell? ((⟨B,o,none⟩:Addr).add j) = some u:=by
  intro j u hu
  have:(⟨B,o,none⟩:Addr).add j = ⟨B,o + j,none⟩:=by unfold Addr.add; split <;> simp_all
  rw [this]
  exact h j u hu
theorem app_start {t e ty : TypeId} {r : RTy} {inf : TypeInfo} {zv : Value} (E : ElemOK P t e r inf zv) {ys : List r.carrier} {xv : Value}
    (hX:(ys = []∧∃ a c,xv = .slice a 0 c)∨∃ B o c us,xv = .slice (some ⟨B,o,none⟩) ys.length c∧cellsAt w B o us∧Reps w S φ (ys.flatMap r.enc) us)
    (hg:φ g = none) {a0:Option Addr} (hb:ys.length * inf.bytes≤140737488355328) :
    ∃ v w' Bn cap len,(Builtin.append_ #[t,t] ty #[.slice a0 0 0,xv]).run P w = .ok v w'∧AppPost w S φ k g (.rows r e ys) v w' Bn cap len:=by
  rcases hX with ⟨rfl,a,c,rfl⟩ | ⟨B,o,c,us,rfl,hcell,hrep⟩
  · exact ⟨_,_,none,0,0,append_nothing E.und E.info a0 a 0 0 c (Nat.le_refl _),⟨⟨rfl,rfl,rfl,fun _ _ _ _=>rfl,fun _ hB=>by cases hB⟩,⟨a0,rfl⟩,rfl,[],⟨by simp,.inl ⟨rfl,rfl⟩⟩,.nil,by simp⟩⟩
  · by_cases hy:ys = []
    · subst hy
      exact ⟨_,_,none,0,0,append_nothing E.und E.info a0 _ 0 0 c (Nat.le_refl _),⟨⟨rfl,rfl,rfl,fun _ _ _ _=>rfl,fun _ hB=>by cases hB⟩,⟨a0,rfl⟩,rfl,[],⟨by simp,.inl ⟨rfl,rfl⟩⟩,.nil,by simp⟩⟩
    · have hn0:0 < ys.length:=List.length_pos_iff.2 hy
      have hm:=E.small hb
      have hul:us.length = ys.length * inf.size:=by rw [← hrep.len,flatMap_len,E.size]
      have hP:=grown_post (k:=k) (e:=e) hg hrep E.zsize (grownCap_ge w ys.length 0 e) (grownCap_le_maxLen w ys.length 0 e hm)
      cases a0 with
      | none =>
        have hr:=run_append_nil (P:=P) w t ty e inf zv E.und E.info E.zero ⟨B,o,none⟩ ys.length c us hul hcell.add hn0 (by simp only [maxLen] at hm; omega) (by omega)
        exact ⟨_,_,_,_,_,hr,hP⟩
      | some a1 =>
        have hr:=run_append_grow (P:=P) w t ty e inf zv E.und E.info E.zero a1 0 0 [] (by simp) (by simp) ⟨B,o,none⟩ ys.length c us hul hcell.add (by omega) (by simp only [maxLen] at hm; omega)
          (growslice_fits (by omega) (by simpa using hb))
        have e0:([]:List Value).toArray ++ us.toArray = us.toArray:=by simp
        simp only [Nat.zero_add,e0] at hr
        exact ⟨_,_,_,_,_,hr,hP⟩
theorem app_own {t e ty : TypeId} {r : RTy} {inf : TypeInfo} {zv : Value} (E : ElemOK P t e r inf zv) (hlt : ∀ {b B cap len}, φ b = some ⟨true, some B, cap, len⟩ → B < w.heap.size) {xs ys : List r.carrier} {xv sv : Value}
    (hX:(ys = []∧∃ a c,xv = .slice a 0 c)∨∃ B o c us,xv = .slice (some ⟨B,o,none⟩) ys.length c∧cellsAt w B o us∧Reps w S φ (ys.flatMap r.enc) us)
    (hg:φ g = none) {b cap0:Nat} {Bo:Option Nat} (h1:φ b = some ⟨true,Bo,cap0,xs.length⟩) (h2:Slot.fits ⟨true,Bo,cap0,xs.length⟩ sv) {us0:List Value} (h4:w.ownsRow 0 e r.size (.slice (baseOf Bo) xs.length cap0) xs.length us0)
    (h5:Reps w S φ (xs.flatMap r.enc) us0) (h6:∀ u ∈ us0,u.oneCell' = true) (hb:(xs ++ ys).length * inf.bytes≤140737488355328) :
    ∃ v w' Bn cap len,(Builtin.append_ #[t,t] ty #[sv,xv]).run P w = .ok v w'∧AppPost w S φ (some b) g (.rows r e (xs ++ ys)) v w' Bn cap len:=by
  cases Bo with
  | none =>
    obtain ⟨a0,rfl⟩:∃ a,sv = .slice a 0 0:=h2
    rcases h4.2 with ⟨h7,h8⟩ | ⟨g,c,cur,hv,_⟩
    · have:xs = []:=List.eq_nil_of_length_eq_zero h8
      subst this
      exact app_start E hX hg hb
    · simp [baseOf] at hv
  | some B0 =>
    simp only [Slot.fits] at h2
    subst h2
    have hlt0:B0 < w.heap.size:=hlt h1
    have h4':=h4
    obtain ⟨h40,h4⟩:=h4
    rcases h4 with ⟨h7,_⟩ | ⟨g',cap',cur,hv,_,hh,h8,h9,h10,h11⟩
    · simp [baseOf] at h7
    · simp [baseOf] at hv
      obtain ⟨rfl,rfl⟩:=hv
      have inplace:ys = []→∀ {a c},xv = .slice a 0 c→∃ v w' Bn cap len,(Builtin.append_ #[t,t] ty #[.slice (some ⟨B0,0,none⟩) xs.length cap0,xv]).run P w = .ok v w'∧AppPost w S φ (some b) g (.rows r e (xs ++ ys)) v w' Bn cap len:=by
        rintro rfl a c rfl
        have m:Moved w w φ (some b) (some B0):=⟨rfl,rfl,rfl,fun _ _ _ _=>rfl,fun _ hB=>by cases hB; exact ⟨hlt0,.inr ⟨b,_,_,rfl,h1⟩⟩⟩
        refine ⟨_,_,some B0,cap0,xs.length,append_nothing E.und E.info _ a xs.length cap0 c h8,⟨m,rfl,?_⟩⟩
        simp only [List.append_nil]
        exact ⟨rfl,us0,h4',h5.mono (m.mono hg),h6⟩
      rcases hX with ⟨hy,a,c,hxv⟩ | ⟨B,o,c,us,rfl,hcell,hrep⟩
      · exact inplace hy hxv
      · by_cases hy:ys = []
        · exact inplace hy (by rw [hy]; rfl)
        · have hul:us.length = ys.length * inf.size:=by rw [← hrep.len,flatMap_len,E.size]
          have hone:=allOne_reps hrep (flatMap_one _ ys)
          have hrep2:Reps w S φ ((xs ++ ys).flatMap r.enc) (us0 ++ us):=by rw [List.flatMap_append]; exact h5.app hrep
          have hnl:(xs ++ ys).length = xs.length + ys.length:=by simp
          have hb2:(xs.length + ys.length) * inf.bytes≤140737488355328:=by rw [← hnl]; exact hb
          have hm2:=E.small hb2
          by_cases hroom:xs.length + ys.length≤cap0
          · have hfit:xs.length * inf.size + us.length≤cur.size:=by rw [hul,h10,← E.size,← Nat.add_mul]; exact Nat.mul_le_mul_right _ hroom
            have hr:=run_append_room (P:=P) w t ty e inf E.und E.info B0 xs.length cap0 cur hh ⟨B,o,none⟩ ys.length c us hul hcell.add hone hroom hfit
            have m:Moved w (w.setRow B0 (cur.toList.take (xs.length * inf.size) ++ us ++ cur.toList.drop (xs.length * inf.size + us.length)).toArray) φ (some b) (some B0) :=
              ⟨rfl,rfl,rfl,fun j _ hj _=>setRow_other w B0 j _ (fun e=>hj (by rw [e])),fun _ hB=>by cases hB; exact ⟨by simpa using hlt0,.inr ⟨b,_,_,rfl,h1⟩⟩⟩
            have hlen:(us0 ++ us).length = (xs ++ ys).length * r.size:=by rw [List.length_append,h40,hul,hnl,Nat.add_mul,E.size]
            have hblk:BlkRep (w.setRow B0 (cur.toList.take (xs.length * inf.size) ++ us ++ cur.toList.drop (xs.length * inf.size + us.length)).toArray) S (movedE φ (some b) g ⟨true,some B0,cap0,(xs ++ ys).length⟩) (some B0) cap0 (xs ++ ys).length (.rows r e (xs ++ ys)):=by
              refine ⟨rfl,us0 ++ us,⟨hlen,.inr ⟨B0,cap0,_,rfl,Nat.zero_le _,setRow_heap w B0 cur _ e _ hh,by rw [hnl]; exact hroom,h9,?_,?_⟩⟩,hrep2.mono (m.mono hg),?_⟩
              · simp only [List.size_toArray,List.length_append,List.length_take,List.length_drop,Array.length_toList]
                rw [← h10]
                omega
              · rw [List.toList_toArray,E.size,h11,← hlen]
                exact List.take_left
              · intro u hu
                rcases List.mem_append.1 hu with hu | hu
                · exact h6 u hu
                · exact hone u hu
            exact ⟨_,_,some B0,cap0,(xs ++ ys).length,hr,⟨m,by rw [hnl]; rfl,hblk⟩⟩
          · have hr:=run_append_grow (P:=P) w t ty e inf zv E.und E.info E.zero ⟨B0,0,none⟩ xs.length cap0 us0 (by rw [h40,E.size]) (ownsRow_cells h4').add ⟨B,o,none⟩ ys.length c us hul hcell.add (by omega)
              (by simp only [maxLen] at hm2; omega) (growslice_fits (by omega) hb2)
            have hP:=grown_post (k:=some b) (e:=e) hg hrep2 E.zsize (by rw [hnl]; exact grownCap_ge w (xs.length + ys.length) cap0 e) (grownCap_le_maxLen w (xs.length + ys.length) cap0 e hm2)
            have eb:(us0 ++ us).toArray = us0.toArray ++ us.toArray:=by apply Array.ext'; simp
            rw [eb,hnl] at hP
            exact ⟨_,_,_,_,_,hr,hP⟩
theorem app_slc {t e ty : TypeId} {r : RTy} {inf : TypeInfo} {zv : Value} (E : ElemOK P t e r inf zv) {xs ys : List r.carrier} {xv : Value}
    (hX:(ys = []∧∃ a c,xv = .slice a 0 c)∨∃ B o c us,xv = .slice (some ⟨B,o,none⟩) ys.length c∧cellsAt w B o us∧Reps w S φ (ys.flatMap r.enc) us)
    (hg:φ g = none) {B0 o0:Nat} {us0:List Value} (h4:cellsAt w B0 o0 us0) (h5:Reps w S φ (xs.flatMap r.enc) us0) (hne:ys≠[]) (hb:(xs ++ ys).length * inf.bytes≤140737488355328) :
    ∃ v w' Bn cap len,(Builtin.append_ #[t,t] ty #[.slice (some ⟨B0,o0,none⟩) xs.length xs.length,xv]).run P w = .ok v w'∧AppPost w S φ none g (.rows r e (xs ++ ys)) v w' Bn cap len:=by
  rcases hX with ⟨hy,a,c,hxv⟩ | ⟨B,o,c,us,rfl,hcell,hrep⟩
  · exact absurd hy hne
  · have hul:us.length = ys.length * inf.size:=by rw [← hrep.len,flatMap_len,E.size]
    have hul0:us0.length = xs.length * inf.size:=by rw [← h5.len,flatMap_len,E.size]
    have hrep2:Reps w S φ ((xs ++ ys).flatMap r.enc) (us0 ++ us):=by rw [List.flatMap_append]; exact h5.app hrep
    have hnl:(xs ++ ys).length = xs.length + ys.length:=by simp
    have hb2:(xs.length + ys.length) * inf.bytes≤140737488355328:=by rw [← hnl]; exact hb
    have hm2:=E.small hb2
    have hy0:0 < ys.length:=List.length_pos_iff.2 hne
    have hr:=run_append_grow (P:=P) w t ty e inf zv E.und E.info E.zero ⟨B0,o0,none⟩ xs.length xs.length us0 hul0 h4.add ⟨B,o,none⟩ ys.length c us hul hcell.add (by omega)
      (by simp only [maxLen] at hm2; omega) (growslice_fits (by omega) hb2)
    have hP:=grown_post (k:=none) (e:=e) hg hrep2 E.zsize (by rw [hnl]; exact grownCap_ge w (xs.length + ys.length) xs.length e) (grownCap_le_maxLen w (xs.length + ys.length) xs.length e hm2)
    have eb:(us0 ++ us).toArray = us0.toArray ++ us.toArray:=by apply Array.ext'; simp
    rw [eb,hnl] at hP
    exact ⟨_,_,_,_,_,hr,hP⟩
theorem appendX_run {C : Cfg} (R : RepH w0 S φ h w) {lookS look : Nat → Option Blk} (HS : HeapRep w S φ lookS) (HL : HeapRep w S φ look) {t t2 : TypeId} {s x : AV} {sv xv : Value} (hs : Reps w S φ [s] [sv]) (hx : Reps w S φ [x] [xv])
    (hg:φ g = none) {Q:Option Nat × Blk→Prop} (ha:(appendX C t t2 s x lookS look).wp Q) (ty:TypeId) :
    t2 = t∧∃ k blk v w' Bn cap len,Q (k,blk)∧(Builtin.append_ #[t,t] ty #[sv,xv]).run C.P w = .ok v w'∧AppPost w S φ k g blk v w' Bn cap len:=by
  unfold appendX at ha
  split at ha
  · rename_i e ht
    split at ha
    · rename_i htt
      refine ⟨htt.symm,?_⟩
      split at ha
      · rename_i r inf z hr hi hz
        obtain ⟨it,zv,hi',hiz,rfl,hzr⟩:=zeroAV_run (w:=w) hz
        rw [hi] at hi'
        cases hi'
        split at ha
        · rename_i hc
          obtain ⟨hsize,hzl,hpos,hby⟩:=hc
          have hzs:zv.cells.size = r.size:=by
            have hcr:Reps w S φ (ofValue zv).cells zv.cells.toList:=by
              unfold ofValue
              split
              · simpa [AV.cells,Value.cells] using ofCells_reps _
              · rename_i hna
                by_cases ha:ofCell zv = .any
                · rw [ha]
                  cases zv <;> first | exact .any _ .nil | (exact absurd rfl (hna _))
                · exact cells_reps (ofCell_reps zv) ha
            have:=hcr.len
            simp at this
            omega
          have E:ElemOK C.P t e r inf zv:=⟨ht,hi,hiz,hsize,hzs,hby⟩
          split at ha
          · exact ha.elim
          rename_i ys hsrc
          have hX:=src_run HL hsrc hx
          split at ha
          · -- nils
            obtain ⟨hb,hq⟩:=ha
            cases hs with
            | nils a0 =>
              obtain ⟨v,w',Bn,cap,len,h1,h2⟩:=app_start (ty:=ty) (k:=none) E hX hg (a0:=a0) hb
              exact ⟨_,_,v,w',Bn,cap,len,hq,h1,h2⟩
          · -- own
            rename_i b
            split at ha
            · rename_i r' e' xs0 hl
              split at ha
              · rename_i xs hxs
                split at ha
                · rename_i hc
                  obtain ⟨rfl,hsame⟩:=hc
                  obtain ⟨hb,hq⟩:=ha
                  obtain ⟨rfl,hxs0⟩:=castL_inv hxs
                  simp only at hxs0
                  subst hxs0
                  cases hs with
                  | own hs =>
                    obtain ⟨sl,h1,h2⟩:=hs
                    obtain ⟨B',cap,len,h3,rfl,us0,h4,h5,h6⟩:=HS _ _ hl
                    rw [h1] at h3
                    cases h3
                    obtain ⟨v,w',Bn,cap,len,h1,h2⟩:=app_own (ty:=ty) E (fun h=>R.get_lt h) hX hg h1 h2 h4 h5 h6 hb
                    exact ⟨_,_,v,w',Bn,cap,len,hq,h1,h2⟩
                · exact ha.elim
              · exact ha.elim
            · exact ha.elim
          · -- slc
            rename_i b off n sz
            split at ha
            · rename_i cs hl
              split at ha
              · rename_i hc
                obtain ⟨rfl,rfl,hnl,hn⟩:=hc
                split at ha
                · rename_i xs hxs
                  obtain ⟨⟨hne,hb⟩,hq⟩:=ha
                  cases hs with
                  | slc hs =>
                    obtain ⟨sl,B',c0,h1,h2,h3⟩:=hs
                    obtain ⟨B1,cap,len,h4,B0,us0,e0,rfl,h5,h6,h7⟩:=HS _ _ hl
                    rw [h1] at h4
                    cases h4
                    cases h2
                    obtain ⟨h8,h9⟩:=decRows_reps hxs h7
                    rcases h3 with ⟨h3,_⟩ | ⟨h3,hfull,rfl⟩
                    · omega
                    · have hul0:cs.length = us0.size:=by simpa using h7.len
                      have hc0:c0 = n:=hfull rfl (by simp only; omega)
                      subst hc0
                      subst h8
                      obtain ⟨v,w',Bn,cap,len,h1,h2⟩:=app_slc (ty:=ty) E hX hg (cellsAt_block h5) h9 hne hb
                      exact ⟨_,_,v,w',Bn,cap,len,hq,h1,h2⟩
                · exact ha.elim
              · exact ha.elim
            · exact ha.elim
          · -- fv
            rename_i r' xs0
            split at ha
            · rename_i xs hxs
              obtain ⟨⟨hne,hb⟩,hq⟩:=ha
              obtain ⟨rfl,hxs0⟩:=castL_inv hxs
              simp only at hxs0
              subst hxs0
              cases hs with
              | fv0 _ _ hx0 a0 =>
                subst hx0
                obtain ⟨v,w',Bn,cap,len,h1,h2⟩:=app_start (ty:=ty) (k:=none) E hX hg (a0:=a0) hb
                exact ⟨_,_,v,w',Bn,cap,len,hq,h1,h2⟩
              | fv _ _ hst hc hr =>
                obtain ⟨v,w',Bn,cap,len,h1,h2⟩:=app_slc (ty:=ty) E hX hg hc hr hne hb
                exact ⟨_,_,v,w',Bn,cap,len,hq,h1,h2⟩
            · exact ha.elim
          · exact ha.elim
        · exact ha.elim
      · exact ha.elim
    · exact ha.elim
  · exact ha.elim
end
end Go.Fx
namespace Go.Fx
open Go Go.RowKit
structure RepS (w0:World) (S:Nat→Prop) (φ:Env) (σ:St) (a:Act) (w:World):Prop where
  tmps:Reps w S φ σ.tmps a.tmps.toList
  mem:RepH w0 S φ σ.heap w
  fresh:∀ id,σ.next≤id→φ id = none
  defers:a.defers = []
structure After (w:World) (S:Nat→Prop) (φ:Env) (next next':Nat) (w':World) (φ':Env):Prop where
  mono:Mono w S φ w' S φ'
  old:∀ id,id < next→φ id = none→φ' id = none
  grow:next≤next'
theorem After.refl (w:World) (S:Nat→Prop) (φ:Env) (n:Nat):After w S φ n n w φ:=⟨Mono.refl _ _ _,fun _ _ h=>h,Nat.le_refl _⟩
theorem After.trans {w w' w'':World} {S:Nat→Prop} {φ φ' φ'':Env} {n n' n'':Nat} (h:After w S φ n n' w' φ') (h':After w' S φ' n' n'' w'' φ''):After w S φ n n'' w'' φ'' :=
  ⟨h.mono.trans h'.mono,fun id hid hn=>h'.old id (Nat.lt_of_lt_of_le hid h.grow) (h.old id hid hn),Nat.le_trans h.grow h'.grow⟩
def exOf:Ex→Exit
  | .normal=>.normal
  | .exit id=>.exit id
  | .goto l=>.goto l
  | .ret=>.ret
inductive Sub:Code→Code→Prop
  | refl (c):Sub c c
  | seqL {c a} (b):Sub c a→Sub c (.seq a b)
  | seqR {c b} (a):Sub c b→Sub c (.seq a b)
  | condL {c a} (x b):Sub c a→Sub c (.cond x a b)
  | condR {c b} (x a):Sub c b→Sub c (.cond x a b)
  | block {c a} (id):Sub c a→Sub c (.block id a)
  | loop {c a}:Sub c a→Sub c (.loop a)
  | scope {c a}:Sub c a→Sub c (.scope a)
  | jump {c a r} (l) (hf:findLabel a l = some r):Sub c r→Sub c (.scope a)
theorem Sub.trans {a b c:Code} (h:Sub a b) (h':Sub b c):Sub a c:=by
  induction h' with
  | refl=>exact h
  | seqL b _ ih=>exact .seqL b ih
  | seqR b _ ih=>exact .seqR b ih
  | condL x b _ ih=>exact .condL x b ih
  | condR x b _ ih=>exact .condR x b ih
  | block id _ ih=>exact .block id ih
  | loop _ ih=>exact .loop ih
  | scope _ ih=>exact .scope ih
  | jump l hf _ ih=>exact .jump l hf ih
def SubOf (P:Program) (g:Nat) (c:Code):Prop:=∃ fn body,P.funcs[g]? = some fn∧fn.body = some body∧Sub c body
theorem SubOf.sub {P:Program} {g:Nat} {c d:Code} (h:SubOf P g c) (hs:Sub d c):SubOf P g d :=
  let ⟨fn,body,h1,h2,h3⟩:=h; ⟨fn,body,h1,h2,hs.trans h3⟩
def SoundRun (C:Cfg) (self:Run):Prop :=
  ∀ g c w0 S φ σ a w (Q:Exit→Act→World→Prop),SubOf C.P g c→RepS w0 S φ σ a w →
    (self g c σ).wp (fun r=>∀ a' w' φ',RepS w0 S φ' r.2 a' w'→After w S φ σ.next r.2.next w' φ'→Q (exOf r.1) a' w')→c.wp C.P Q a w
structure EffPost (w0:World) (w:World) (S:Nat→Prop) (φ:Env) (next:Nat) (r:AV × Heap × Nat) (x:Value) (w':World) (φ':Env):Prop where
  val:Reps w' S φ' [r.1] [x]
  mem:RepH w0 S φ' r.2.1 w'
  fresh:∀ id,r.2.2≤id→φ' id = none
  after:After w S φ next r.2.2 w' φ'
section
variable {C:Cfg} {w0 w:World} {S:Nat→Prop} {φ:Env} {h:Heap}
theorem movedE_none {k:Option Nat} {g id:Nat} {s:Slot} (hne:id≠g) (hn:φ id = none):movedE φ k g s id = none:=by
  unfold movedE
  rw [updE_ne _ _ hne]
  exact killO_none hn
theorem resR_sound (OK : CfgOK C) {o : Oper} {ρ : Operand → AV} {next : Nat} {a : Act} {K : Act → World → Prop} {Q : Exit → Act → World → Prop}
    (R:RepH w0 S φ h w) (hf:∀ id,next≤id→φ id = none) (hops:∀ x ∈ o.op.operands,Reps w S φ [ρ x] [a.eval x])
    (hx:(resR C o ρ h next).wp fun r=>∀ x w' φ',EffPost w0 w S φ next r x w' φ'→K (a.put o.dst x) w'):o.wp C.P a w K Q:=by
  unfold resR at hx
  rw [Tree.wp_bind] at hx
  refine resD_sound OK R.heap R.disj R.sow hops (Tree.wp_mono hx fun r hr=>⟨fun id h1 _=>hf id h1,fun x w' φ' hp=>?_⟩)
  have hF:FreshE φ next r.2.length:=fun id h1 _=>hf id h1
  obtain ⟨h1,h2⟩:=R.ext hF hp
  refine hr x w' φ' ⟨hp.val,h1,fun id hid=>?_,⟨h2,fun id hid hn=>?_,Nat.le_add_right _ _⟩⟩
  · simp only at hid
    rw [hp.ext.same id (by omega)]
    exact hf id (by omega)
  · rw [hp.ext.same id (by omega)]
    exact hn
def resSem (tmps:Array Value):ResultVar→Sem Value
  | .tmp t=>pure (tmps.getD t undef)
  | .cell a t=>do loadVar t (← asAddr (tmps.getD a undef))
theorem resultAV_reps {look : Nat → Option Blk} (HL : HeapRep w S φ look) {ts : List AV} {tmps : Array Value} (ht : Reps w S φ ts tmps.toList) : ∀ {rs : List ResultVar} {vs : List AV}, resultAV C.P look ts rs = some vs →
    ∃ us:List Value,(rs.mapM (resSem tmps)).run C.P w = .ok us w∧Reps w S φ vs us
  | [],vs,h=>by cases h; exact ⟨[],by simp,.nil⟩
  | .tmp t :: rs,vs,h=>by
    simp only [resultAV] at h
    split at h
    · rename_i vs' hvs
      cases h
      obtain ⟨us,h1,h2⟩:=resultAV_reps HL ht hvs
      refine ⟨tmps.getD t undef :: us,?_,?_⟩
      · rw [List.mapM_cons]
        simp only [resSem,Sem.run_bind,Sem.run_pure,Result.andThen_ok]
        rw [h1]
        simp
      · have:=ht.nth t
        exact Reps.cons (by simpa using this) h2
    · cases h
  | .cell a t :: rs,vs,h=>by
    simp only [resultAV] at h
    split at h
    · rename_i v vs' hv hvs
      cases h
      obtain ⟨us,h1,h2⟩:=resultAV_reps HL ht hvs
      have hp:Reps w S φ [nth ts a] [tmps.getD a undef]:=by simpa using ht.nth a
      obtain ⟨z,v',h3,h4,h5⟩:=loadV_gives (P:=C.P) HL (t:=t) hp (fun x=>x = v) (by rw [hv]; rfl)
      subst h4
      refine ⟨z :: us,?_,Reps.cons h5 h2⟩
      rw [List.mapM_cons]
      have h6:(resSem tmps (.cell a t)).run C.P w = .ok z w:=by
        show (do loadVar t (← asAddr (tmps.getD a undef)):Sem Value).run C.P w = .ok z w
        clear hp
        generalize tmps.getD a undef = p at h3 ⊢
        cases p <;> try (simp [Instr.loadAt,Instr.sureAddr] at h3; done)
        rename_i o
        cases o <;> simp_all [Instr.loadAt,Instr.sureAddr,asAddr]
      simp only [Sem.run_bind]
      rw [h6]
      simp only [Result.andThen_ok]
      rw [h1]
      simp
    · cases h
theorem results_run {look : Nat → Option Blk} (HL : HeapRep w S φ look) {ts : List AV} {tmps : Array Value} (ht : Reps w S φ ts tmps.toList) {fn : Func} {vs : List AV} (h : resultAV C.P look ts fn.results.toList = some vs) :
    ∃ x,(results fn tmps).run C.P w = .ok x w∧Reps w S φ [oneOrTup vs] [x]:=by
  obtain ⟨us,h1,h2⟩:=resultAV_reps HL ht h
  have e:(results fn tmps).run C.P w = .ok (if h:us.toArray.size = 1 then us.toArray[0] else .tuple us.toArray) w:=by
    have e0:results fn tmps = (do let vs ← fn.results.mapM (resSem tmps); pure (if h:vs.size = 1 then vs[0] else .tuple vs)):=by
      unfold results
      congr 2
    rw [e0,← Array.toArray_toList (xs:=fn.results),List.mapM_toArray]
    simp only [Sem.run_bind,map_eq_pure_bind]
    rw [h1]
    simp
  refine ⟨_,e,?_⟩
  match vs,us,h2 with
  | [],us,h2=>cases h2.nil_inv; exact .tup .nil .nil
  | [v],us,h2 =>
    obtain ⟨x,rfl,h3⟩:=h2.one_inv
    exact h3
  | v :: v2 :: vs,us,h2 =>
    obtain ⟨x,us,rfl,h3,h4⟩:=h2.uncons
    obtain ⟨x2,us,rfl,h5,h6⟩:=h4.uncons
    simp only [oneOrTup]
    rw [dif_neg (by simp)]
    exact .tup h2 .nil
theorem inlineX_sound {self : Run} (hself : SoundRun C self) {g : Nat} {args : List AV} {vals : List Value} {next : Nat} (R : RepH w0 S φ h w) (hf : ∀ id, next ≤ id → φ id = none) (ha : Reps w S φ args vals)
    {T:Ending→World→Prop} (hx:(inlineX C self g args h next).wp fun r=>∀ x w' φ',EffPost w0 w S φ next r x w' φ'→T (.returned x) w') :
    Enters C.P g∧Calls C.P g vals.toArray w T:=by
  unfold inlineX at hx
  split at hx
  · exact hx.elim
  rename_i fn hfn
  split at hx
  · exact hx.elim
  rename_i body hbody
  split at hx
  · exact hx.elim
  rename_i hname
  refine ⟨⟨fn,hfn,by simpa using hname,by simp [hbody]⟩,?_⟩
  rw [Tree.wp_bind] at hx
  refine calls_of_wp hfn hbody (hself g body w0 S φ _ _ w _ ⟨fn,body,hfn,hbody,.refl _⟩ ⟨?_,R,hf,rfl⟩ (Tree.wp_mono hx ?_))
  · have:=ha.app (Reps.anys (w:=w) (S:=S) (φ:=φ) (fn.ntmps - args.length) undef)
    rw [ha.len] at this ⊢
    simpa using this
  · rintro ⟨e,σ'⟩ hr a' w' φ' RS HA
    have fin : (match resultAV C.P σ'.heap.get σ'.tmps fn.results.toList with
          | some vs=>Tree.ret (oneOrTup vs,σ'.heap,σ'.next)
          | none=>Tree.fail).wp (fun r=>∀ x w' φ',EffPost w0 w S φ next r x w' φ'→T (.returned x) w') →
        a'.defers = []∧∃ v,(results fn a'.tmps).run C.P w' = .ok v w'∧T (.returned v) w':=by
      intro hr
      split at hr
      · rename_i vs hvs
        obtain ⟨x,h1,h2⟩:=results_run RS.mem.heap RS.tmps hvs
        exact ⟨RS.defers,x,h1,hr x w' φ' ⟨h2,RS.mem,RS.fresh,HA⟩⟩
      · exact hr.elim
    cases e with
    | normal=>exact fin hr
    | ret=>exact fin hr
    | exit id=>exact hr.elim
    | goto l=>exact hr.elim
theorem unit_step {o : Oper} {a : Act} {K : Act → World → Prop} {Q : Exit → Act → World → Prop} {next : Nat} {t : Tree Heap} {s : Sem Unit} (hf : ∀ id, next ≤ id → φ id = none)
    (he:execOp a.eval o = (do s; pure .skip))
    (hs:∀ Q,t.wp Q→∃ w' h',Q h'∧s.run C.P w = .ok () w'∧RepH w0 S φ h' w'∧Mono w S φ w' S φ)
    (hx:(t.bind fun h'=>Tree.ret (AV.any,h',next)).wp fun r=>∀ x w' φ',EffPost w0 w S φ next r x w' φ'→K (a.put o.dst x) w'):o.wp C.P a w K Q:=by
  rw [Tree.wp_bind] at hx
  obtain ⟨w',h',hq,hr,R',m⟩:=hs _ hx
  unfold Oper.wp
  rw [he,Sem.run_bind,hr]
  simp only [Result.andThen_ok,Sem.run_pure,Oper.upon_skip]
  exact hq _ w' φ ⟨.any _ .nil,R',hf,⟨m,fun _ _ h=>h,Nat.le_refl _⟩⟩
theorem effR_sound {self : Run} (hself : SoundRun C self) {o : Oper} {ρ : Operand → AV} {next : Nat} {a : Act} {K : Act → World → Prop} {Q : Exit → Act → World → Prop}
    (R:RepH w0 S φ h w) (hf:∀ id,next≤id→φ id = none) (hops:∀ x ∈ o.op.operands,Reps w S φ [ρ x] [a.eval x])
    (hx:(effR C self o ρ h next).wp fun r=>∀ x w' φ',EffPost w0 w S φ next r x w' φ'→K (a.put o.dst x) w'):o.wp C.P a w K Q:=by
  unfold effR at hx
  split at hx
  · rename_i t x y ho
    exact unit_step hf (by simp [execOp,ho]) (fun Q hq=>storeX_run R (hops x (by simp [ho,Op.operands])) (hops y (by simp [ho,Op.operands])) hq) hx
  · rename_i t m k x ho
    exact unit_step hf (by simp [execOp,ho]) (fun Q hq=>mapUpdX_run R (hops m (by simp [ho,Op.operands])) (hops k (by simp [ho,Op.operands])) (hops x (by simp [ho,Op.operands])) hq) hx
  · rename_i t m k x ho
    exact unit_step hf (by simp [execOp,ho]) (fun Q hq=>mapUpdX_run R (hops m (by simp [ho,Op.operands])) (hops k (by simp [ho,Op.operands])) (hops x (by simp [ho,Op.operands])) hq) hx
  · rename_i c ho
    split at hx
    · -- append
      rename_i hc
      split at hx
      · rename_i s x t t2 hargs htypes
        rw [Tree.wp_bind] at hx
        have hargs':c.args = #[s,x]:=by apply Array.ext'; simpa using hargs
        have htypes':c.argTypes = #[t,t2]:=by apply Array.ext'; simpa using htypes
        obtain ⟨rfl,k,blk,v,w',Bn,cap,len,hq,hr,hp⟩:=appendX_run (g:=next) R R.heap R.heap (hops s (by simp [ho,Op.operands,Call.operands,hargs'])) (hops x (by simp [ho,Op.operands,Call.operands,hargs'])) (hf next (Nat.le_refl _)) hx o.type
        unfold Oper.wp
        have e:(execOp a.eval o).run C.P w = .ok (.value v) w':=by
          simp [execOp,ho,resolve,hc,invoke,builtin,hargs',htypes',hr]
        rw [e,Oper.upon_value]
        have hg:=hf next (Nat.le_refl _)
        refine hq v w' _ ⟨?_,hp.moved.rep R hg hp.blk,fun id hid=>?_,⟨hp.moved.mono hg,fun id hid hn=>?_,Nat.le_succ _⟩⟩
        · exact .own ⟨_,updE_self _ _ _,hp.fits⟩ .nil
        · simp only at hid
          exact movedE_none (by omega) (hf id (by omega))
        · exact movedE_none (by omega) hn
      · exact hx.elim
    · -- delete
      rename_i hc
      split at hx
      · rename_i m k t ts hargs htypes
        rw [Tree.wp_bind] at hx
        have hargs':c.args = #[m,k]:=by apply Array.ext'; simpa using hargs
        have ht:c.argTypes[0]? = some t:=by rw [← Array.getElem?_toList,htypes]; rfl
        obtain ⟨w',h',hq,hr,R',mo⟩:=delX_run R (hops m (by simp [ho,Op.operands,Call.operands,hargs'])) (hops k (by simp [ho,Op.operands,Call.operands,hargs'])) hx c.argTypes ht o.type
        unfold Oper.wp
        have e:(execOp a.eval o).run C.P w = .ok (.value (.tuple #[])) w':=by
          simp [execOp,ho,resolve,hc,invoke,builtin,hargs',hr]
        rw [e,Oper.upon_value]
        exact hq _ w' φ ⟨.any _ .nil,R',hf,⟨mo,fun _ _ h=>h,Nat.le_refl _⟩⟩
      · exact hx.elim
    · exact hx.elim
    · split at hx
      · rename_i g args hcall
        have key:∀ vals,Reps w S φ args vals→Enters C.P g∧Calls C.P g vals.toArray w fun e w'=>∃ x,e = .returned x∧K (a.put o.dst x) w':=fun vals hv =>
          inlineX_sound hself R hf hv (Tree.wp_mono hx fun r hr x w' φ' hp=>⟨x,rfl,hr x w' φ' hp⟩)
        have hent:Enters C.P g:=by
          unfold inlineX at hx
          split at hx
          · exact hx.elim
          rename_i fn hfn
          split at hx
          · exact hx.elim
          rename_i body hbody
          split at hx
          · exact hx.elim
          rename_i hname
          exact ⟨fn,hfn,by simpa using hname,by simp [hbody]⟩
        obtain ⟨vals,hrun,hvals⟩:=callTo_run ho hops hcall hent
        unfold Oper.wp
        rw [hrun,Oper.upon_enter]
        refine (key vals hvals).2.mono ?_
        rintro e w' ⟨x,rfl,hk⟩
        exact hk
      · exact hx.elim
  · exact hx.elim
end
end Go.Fx
namespace Go.Fx
open Go Go.RowKit
def ValidEat (P:Program) (g:Nat) (E:TypeId→List AV→Tree Blk):Prop :=
  Enters P g∧∀ (r:RTy) (e:TypeId) (xs:List r.carrier) (rest:List AV) (blk:Blk),(E e (.view r xs :: rest)).Out blk→∀ (w:World) (S:Nat→Prop) (φ:Env) (b next:Nat) (B:Option Nat) (cap:Nat) (us:List Value) (sv:Value) (vals:List Value),
    φ b = some ⟨true,B,cap,xs.length⟩→(∀ k,B = some k→k < w.heap.size)→Slot.fits ⟨true,B,cap,xs.length⟩ sv→w.ownsRow 0 e r.size (.slice (baseOf B) xs.length cap) xs.length us→Reps w S φ (xs.flatMap r.enc) us →
    (∀ u ∈ us,u.oneCell' = true)→Reps w S (fun id=>if id = b then φ b else none) rest vals→φ next = none →
    Calls P g (sv :: vals).toArray w fun en w'=>∃ x Bn cap' len',en = .returned x∧AppPost w S φ (some b) next blk x w' Bn cap' len'
def EatOK (C:Cfg):Prop:=∀ g E,findEat C.eat g = some E→ValidEat C.P g E
section
variable {C:Cfg} {w0 w:World} {S:Nat→Prop} {φ:Env} {h:Heap}
theorem zeros_reps {r:RTy} {d:r.carrier} {us:List Value} (h:Reps w S φ (r.enc d) us):∀ n:Nat,Reps w S φ ((List.replicate n d).flatMap r.enc) ((List.replicate n us).flatten)
  | 0=>.nil
  | n + 1=>by
    rw [List.replicate_succ,List.flatMap_cons,List.replicate_succ,List.flatten_cons]
    exact h.app (zeros_reps h n)
theorem zeroCells_eq {zv:Array Value} (hz:0 < zv.size):∀ n:Nat,(Builtin.zeroCells zv n).toList = (List.replicate n zv.toList).flatten
  | 0=>by simp [Builtin.zeroCells]
  | n + 1=>by
    have e:(Builtin.zeroCells zv (n + 1)).toList = (Builtin.zeroCells zv n).toList ++ zv.toList:=by
      unfold Builtin.zeroCells
      simp only [Array.toList_map,Array.toList_range]
      rw [show (n + 1) * zv.size = n * zv.size + zv.size by rw [Nat.add_mul]; omega,List.range_add,List.map_append,List.map_map]
      congr 1
      apply List.ext_getElem?
      intro i
      by_cases hi:i < zv.size
      · have:(n * zv.size + i) % zv.size = i:=by rw [Nat.mul_comm,Nat.mul_add_mod]; exact Nat.mod_eq_of_lt hi
        simp [hi,this]
      · simp [hi]
    rw [e,zeroCells_eq hz n,List.replicate_succ',List.flatten_append]
    simp
theorem row_take {r : RTy} {e : TypeId} {xs : List r.carrier} {us : List Value} {B cap n : Nat} (hn : n ≤ xs.length) (h : w.ownsRow 0 e r.size (.slice (baseOf (some B)) xs.length cap) xs.length us) (hr : Reps w S φ (xs.flatMap r.enc) us) :
    w.ownsRow 0 e r.size (.slice (baseOf (some B)) n cap) n (us.take (n * r.size))∧Reps w S φ ((xs.take n).flatMap r.enc) (us.take (n * r.size)):=by
  obtain ⟨h0,h4⟩:=h
  have hle:n * r.size≤xs.length * r.size:=Nat.mul_le_mul_right _ hn
  refine ⟨⟨?_,?_⟩,?_⟩
  · rw [List.length_take,h0]; omega
  · rcases h4 with ⟨h7,_⟩ | ⟨g',cap',cur,hv,hg0,hh,h8,h9,h10,h11⟩
    · simp [baseOf] at h7
    · simp [baseOf] at hv
      obtain ⟨rfl,rfl⟩:=hv
      refine .inr ⟨B,cap,cur,rfl,Nat.zero_le _,hh,Nat.le_trans hn h8,h9,h10,?_⟩
      rw [← h11,List.take_take,Nat.min_eq_left hle]
  · have:=flatMap_takeDrop r xs 0 n
    simp only [List.drop_zero,Nat.zero_mul] at this
    rw [this]
    exact hr.take _
theorem own_some {b : Nat} {r : RTy} {e : TypeId} {xs : List r.carrier} {v : Value} (R : RepH w0 S φ h w) (hb : h.get b = some (.rows r e xs)) (hv : Reps w S φ [.own b] [v]) :
    ∃ B cap us,φ b = some ⟨true,B,cap,xs.length⟩∧Slot.fits ⟨true,B,cap,xs.length⟩ v∧w.ownsRow 0 e r.size (.slice (baseOf B) xs.length cap) xs.length us∧Reps w S φ (xs.flatMap r.enc) us∧(∀ u ∈ us,u.oneCell' = true)∧(∀ k,B = some k→k < w.heap.size):=by
  cases hv with
  | own hv =>
    obtain ⟨s,h1,h2⟩:=hv
    obtain ⟨B,cap,len,h3,rfl,us,h4,h5,h6⟩:=R.heap _ _ hb
    rw [h1] at h3
    cases h3
    exact ⟨B,cap,us,h1,h2,h4,h5,h6,fun k hk=>R.get_lt (by rw [h1,hk])⟩
theorem own_block {b : Nat} {r : RTy} {e : TypeId} {xs : List r.carrier} {v : Value} (R : RepH w0 S φ h w) (hb : h.get b = some (.rows r e xs)) (hv : Reps w S φ [.own b] [v]) (hx : 0 < xs.length) :
    ∃ B cap us,φ b = some ⟨true,some B,cap,xs.length⟩∧v = .slice (some ⟨B,0,none⟩) xs.length cap∧xs.length≤cap∧w.ownsRow 0 e r.size (.slice (baseOf (some B)) xs.length cap) xs.length us∧Reps w S φ (xs.flatMap r.enc) us∧(∀ u ∈ us,u.oneCell' = true)∧B < w.heap.size:=by
  obtain ⟨B,cap,us,h1,h2,h3,h4,h5,h6⟩:=own_some R hb hv
  cases B with
  | none =>
    exfalso
    rcases h3.2 with ⟨_,h⟩ | ⟨_,_,_,h,_⟩
    · omega
    · simp [baseOf] at h
  | some B =>
    refine ⟨B,cap,us,h1,h2,?_,h3,h4,h5,h6 B rfl⟩
    rcases h3.2 with ⟨h,_⟩ | ⟨g',cap',cur,hv,_,_,h8,_⟩
    · simp [baseOf] at h
    · simp [baseOf] at hv
      obtain ⟨_,rfl⟩:=hv
      exact h8
theorem cutR_sound (EK : EatOK C) {o : Oper} {ρ : Operand → AV} {next : Nat} {a : Act} {K : Act → World → Prop} {Q : Exit → Act → World → Prop}
    (R:RepH w0 S φ h w) (hf:∀ id,next≤id→φ id = none) (hops:∀ x ∈ o.op.operands,Reps w S φ [ρ x] [a.eval x])
    (hx:(cutR C o ρ h next).wp fun r=>∀ x w' φ',EffPost w0 w S φ next r x w' φ'→K (a.put o.dst x) w'):o.wp C.P a w K Q:=by
  unfold cutR at hx
  have hg:=hf next (Nat.le_refl _)
  split at hx
  · -- slices
    rename_i t x lo hi mx ho
    split at hx
    · rename_i b e hρ hu
      split at hx
      · rename_i r e' xs sz hb hsz
        split at hx
        · rename_i hc
          obtain ⟨rfl,hbig⟩:=hc
          have hox:=hops x (by simp [ho,Op.operands])
          rw [hρ] at hox
          have o1:∀ o,lo = some o→Reps w S φ [ρ o] [a.eval o]:=fun o h=>hops o (by simp [ho,Op.operands,h])
          have o2:∀ o,hi = some o→Reps w S φ [ρ o] [a.eval o]:=fun o h=>hops o (by simp [ho,Op.operands,h])
          have o3:∀ o,mx = some o→Reps w S φ [ρ o] [a.eval o]:=fun o h=>hops o (by simp [ho,Op.operands,h])
          split at hx
          · rename_i l i hl hh hm
            obtain ⟨⟨c1,c2,c3⟩,hx⟩:=hx
            obtain ⟨B,cap,us,h1,h2,h2c,h3,h4,h5,h6⟩:=own_block R hb hox c3
            have key:=sliceBounds_run (P:=C.P) (w:=w) (isSlice:=true) (len:=xs.length) (cap:=cap) (boundV_inv o1 hl) (boundV_inv o2 hh) (boundV_inv o3 hm) (l:=i.toNat) (h:=xs.length) (m:=cap)
              (by simp only [lowOf]; omega) rfl rfl (by omega) (by simp) (by omega) (by simp)
            have hr:=sliceAt_run (a:=some ⟨B,0,none⟩) hu hsz key
            rw [← h2] at hr
            have e0:(execOp a.eval o).run C.P w = .ok (.value (.slice (if cap = i.toNat then some ⟨B,0,none⟩ else (some (⟨B,0,none⟩:Addr)).map (·.add (i.toNat * r.size))) (xs.length - i.toNat) (cap - i.toNat))) w:=by
              simp [execOp,ho,hr]
            unfold Oper.wp
            rw [e0,Oper.upon_value]
            refine hx _ w φ ⟨.slc ⟨_,B,cap - i.toNat,h1,rfl,?_⟩ .nil,R,hf,After.refl _ _ _ _⟩
            by_cases hn:xs.length - i.toNat = 0
            · rw [hn]; exact .inl ⟨rfl,_,rfl⟩
            · refine .inr ⟨by omega,fun e1 e2=>?_,?_⟩
              · simp only at e2
                have:i.toNat = 0:=by
                  rcases Nat.mul_eq_zero.1 e1 with h | h
                  · exact h
                  · omega
                rw [this,Nat.sub_zero] at e2
                have:=Nat.mul_lt_mul_of_pos_left hbig c3
                omega
              · rw [if_neg (by omega)]
                show Value.slice (some (Addr.add ⟨B,0,none⟩ (i.toNat * r.size))) _ _ = _
                unfold Addr.add
                split
                · rename_i h0; rw [h0]
                · simp
          · rename_i u i hl hh hm
            obtain ⟨⟨c1,c2,c3⟩,hx⟩:=hx
            obtain ⟨B,cap,us,h1,h2,h2c,h3,h4,h5,h6⟩:=own_block R hb hox c3
            have key:=sliceBounds_run (P:=C.P) (w:=w) (isSlice:=true) (len:=xs.length) (cap:=cap) (boundV_inv o1 hl) (boundV_inv o2 hh) (boundV_inv o3 hm) (l:=0) (h:=i.toNat) (m:=cap)
              rfl (by simp only [highOf]; omega) rfl (by omega) (by intro _; omega) (by omega) (by simp)
            have hr:=sliceAt_run (a:=some ⟨B,0,none⟩) hu hsz key
            rw [← h2] at hr
            have ea:(if cap = 0 then some (⟨B,0,none⟩:Addr) else (some (⟨B,0,none⟩:Addr)).map (·.add (0 * r.size))) = some ⟨B,0,none⟩:=by split <;> simp [Addr.add]
            rw [ea] at hr
            have e0:(execOp a.eval o).run C.P w = .ok (.value (.slice (some ⟨B,0,none⟩) i.toNat cap)) w:=by
              simp [execOp,ho,hr]
            unfold Oper.wp
            rw [e0,Oper.upon_value]
            have m:Moved w w φ (some b) (some B):=⟨rfl,rfl,rfl,fun _ _ _ _=>rfl,fun _ hB=>by cases hB; exact ⟨h6,.inr ⟨b,_,_,rfl,h1⟩⟩⟩
            obtain ⟨k1,k2⟩:=row_take (n:=i.toNat) (by omega) h3 h4
            have hlen:(xs.take i.toNat).length = i.toNat:=by rw [List.length_take]; omega
            have hblk:BlkRep w S (movedE φ (some b) next ⟨true,some B,cap,i.toNat⟩) (some B) cap i.toNat (.rows r e' (xs.take i.toNat)) :=
              ⟨hlen.symm,_,k1,k2.mono (m.mono hg),fun u hu=>h5 u (List.mem_of_mem_take hu)⟩
            refine hx _ w _ ⟨.own ⟨⟨true,some B,cap,i.toNat⟩,updE_self _ _ _,rfl⟩ .nil,m.rep R hg hblk,fun id hid=>?_,⟨m.mono hg,fun id hid hn=>?_,Nat.le_succ _⟩⟩
            · simp only at hid
              exact movedE_none (by omega) (hf id (by omega))
            · exact movedE_none (by omega) hn
          · exact hx.elim
        · exact hx.elim
      · exact hx.elim
    · exact hx.elim
  · rename_i c ho
    split at hx
    · -- clear
      rename_i hc
      split at hx
      · rename_i x t hargs htypes
        have hargs':c.args = #[x]:=by apply Array.ext'; simpa using hargs
        have htypes':c.argTypes = #[t]:=by apply Array.ext'; simpa using htypes
        have hox:=hops x (by simp [ho,Op.operands,Call.operands,hargs'])
        split at hx
        · rename_i b off n sz e hρ hu
          rw [hρ] at hox
          split at hx
          · rename_i r e' xs z hb hz
            split at hx
            · rename_i d hd
              split at hx
              · rename_i hcc
                obtain ⟨hzl,hpos,hone⟩:=hcc
                obtain ⟨⟨rfl,hn⟩,hx⟩:=hx
                obtain ⟨it,zv,hi,hiz,rfl,hzr⟩:=zeroAV_run (w:=w) hz
                have hcr0:Reps w S φ (ofValue zv).cells zv.cells.toList:=by
                  unfold ofValue
                  split
                  · simpa [AV.cells,Value.cells] using ofCells_reps _
                  · rename_i hna
                    by_cases ha:ofCell zv = .any
                    · rw [ha]
                      cases zv <;> first | exact .any _ .nil | (exact absurd rfl (hna _))
                    · exact cells_reps (ofCell_reps zv) ha
                have hzs:zv.cells.size = r.size:=by have:=hcr0.len; simp at this; omega
                have hz1:=allOne_reps hcr0 hone
                have hcr:=dec_reps hd hcr0
                cases hox with
                | slc hox =>
                  obtain ⟨s,B,cc,q1,q2,q3⟩:=hox
                  obtain ⟨B',cap,len,q4,rfl,us,h4,h5,h6⟩:=R.heap _ _ hb
                  rw [q1] at q4
                  cases q4
                  cases q2
                  have fin:∀ v:Value,a.eval x = v→∀ w',(Builtin.clear_ #[t] o.type #[v]).run C.P w = .ok (.tuple #[]) w'→RepH w0 S φ (h.put b (.rows r e' (xs.take (xs.length - n) ++ List.replicate n d))) w'→Mono w S φ w' S φ→o.wp C.P a w K Q:=by
                    intro v hv w' hr R' m
                    unfold Oper.wp
                    have e0:(execOp a.eval o).run C.P w = .ok (.value (.tuple #[])) w':=by
                      simp [execOp,ho,resolve,hc,invoke,builtin,hargs',htypes',hv,hr]
                    rw [e0,Oper.upon_value]
                    exact hx _ w' φ ⟨.any _ .nil,R',hf,⟨m,fun _ _ h=>h,Nat.le_refl _⟩⟩
                  obtain ⟨h40,h4⟩:=h4
                  rcases h4 with ⟨h4,_⟩ | ⟨g,cap',cur,h4,_,h8,h9,h10,h11,h12⟩
                  · simp [baseOf] at h4
                  simp [baseOf] at h4
                  obtain ⟨rfl,rfl⟩:=h4
                  rcases q3 with ⟨rfl,a0,hv⟩ | ⟨q3,q5,hv⟩
                  · refine fin _ hv w ?_ ?_ (Mono.refl _ _ _)
                    · cases a0 <;> simp [Builtin.clear_,run_underlying hu]
                    · have e:xs.take (xs.length - 0) ++ List.replicate 0 d = xs:=by simp
                      rw [e]
                      exact R.upd q1 ⟨rfl,rfl,rfl,rfl,fun _ _=>rfl⟩ ⟨rfl,us,⟨h40,.inr ⟨B,cap,cur,rfl,Nat.zero_le _,h8,h9,h10,h11,h12⟩⟩,h5,h6⟩
                  · by_cases hn0:n = 0
                    · subst hn0
                      refine fin _ hv w ?_ ?_ (Mono.refl _ _ _)
                      · simp [Builtin.clear_,run_underlying hu]
                      · have e:xs.take (xs.length - 0) ++ List.replicate 0 d = xs:=by simp
                        rw [e]
                        exact R.upd q1 ⟨rfl,rfl,rfl,rfl,fun _ _=>rfl⟩ ⟨rfl,us,⟨h40,.inr ⟨B,cap,cur,rfl,Nat.zero_le _,h8,h9,h10,h11,h12⟩⟩,h5,h6⟩
                    · have hcl:xs.length * r.size≤cur.size:=by rw [h11]; exact Nat.mul_le_mul_right _ h9
                      have hzl2:((List.replicate n zv.cells.toList).flatten).length = n * r.size:=by
                        rw [List.length_flatten,List.map_replicate,List.sum_replicate_nat]; simp [hzs]
                      have hsum:(xs.length - n) * r.size + n * r.size = xs.length * r.size:=by rw [← Nat.add_mul]; congr 1; omega
                      have hone2:∀ v ∈ (List.replicate n zv.cells.toList).flatten,v.oneCell' = true:=by
                        intro v hv
                        obtain ⟨l,hl1,hl2⟩:=List.mem_flatten.1 hv
                        rw [List.eq_of_mem_replicate hl1] at hl2
                        exact hz1 v hl2
                      have hst:=run_storeCells_at C.P B ((xs.length - n) * r.size) e' ((List.replicate n zv.cells.toList).flatten) 0 cur w h8 (by rw [hzl2]; omega) hone2
                      simp only [Nat.add_zero,hzl2,hsum] at hst
                      have c:=Chg.setRow w B (cur.toList.take ((xs.length - n) * r.size) ++ (List.replicate n zv.cells.toList).flatten ++ cur.toList.drop (xs.length * r.size)).toArray
                      have m:Mono w S φ _ S φ:=c.mono ⟨_,_,_,q1⟩
                      obtain ⟨p,rfl⟩:∃ p,n = p + 1:=⟨n - 1,by omega⟩
                      refine fin _ hv _ ?_ ?_ m
                      · have ez:(Builtin.zeroCells zv.cells (p + 1)).toList = _:=zeroCells_eq (by rw [hzs]; exact hpos) (p + 1)
                        simp only [Builtin.clear_,List.getElem?_toArray,List.getElem?_cons_zero,run_underlying hu,Sem.run_bind,Result.andThen_ok]
                        obtain ⟨it2,zv2,hi2,hiz2,hz2,hzr2⟩:=zeroAV_run (w:=w) hz
                        rw [hi] at hi2
                        cases hi2
                        rw [hiz] at hiz2
                        cases hiz2
                        simp only [hzr2,Result.andThen_ok,ez,hst,Sem.run_pure]
                      · have hus:us = us.take ((xs.length - (p + 1)) * r.size) ++ us.drop ((xs.length - (p + 1)) * r.size):=(List.take_append_drop _ _).symm
                        have ht:=(flatMap_takeDrop r xs 0 (xs.length - (p + 1)))
                        simp only [List.drop_zero,Nat.zero_mul] at ht
                        have hlt:(us.take ((xs.length - (p + 1)) * r.size)).length = (xs.length - (p + 1)) * r.size:=by rw [List.length_take,h40]; omega
                        have hct:cur.toList.take ((xs.length - (p + 1)) * r.size) = us.take ((xs.length - (p + 1)) * r.size):=by
                          rw [← h12,List.take_take,Nat.min_eq_left (by omega)]
                        refine R.upd q1 c ⟨?_,us.take ((xs.length - (p + 1)) * r.size) ++ (List.replicate (p + 1) zv.cells.toList).flatten,⟨?_,.inr ⟨B,cap,_,rfl,Nat.zero_le _,setRow_heap w B cur _ e' _ h8,h9,h10,?_,?_⟩⟩,?_,?_⟩
                        · rw [List.length_append,List.length_take,List.length_replicate]; omega
                        · rw [List.length_append,hlt,hzl2]; exact hsum
                        · simp only [List.size_toArray,List.length_append,List.length_take,List.length_drop,Array.length_toList,hzl2]
                          rw [← h11]
                          omega
                        · rw [List.toList_toArray,hct]
                          have hl2:(us.take ((xs.length - (p + 1)) * r.size) ++ (List.replicate (p + 1) zv.cells.toList).flatten).length = xs.length * r.size:=by
                            rw [List.length_append,hlt,hzl2]; exact hsum
                          rw [← hl2]
                          exact List.take_left
                        · rw [List.flatMap_append,ht]
                          exact ((h5.take _).app (zeros_reps hcr (p + 1))).mono m
                        · intro u hu
                          rcases List.mem_append.1 hu with hu | hu
                          · exact h6 u (List.mem_of_mem_take hu)
                          · exact hone2 u hu
              · exact hx.elim
            · exact hx.elim
          · exact hx.elim
        · exact hx.elim
      · exact hx.elim
    · -- nothing is appended to a literal
      rename_i hc
      split at hx
      · rename_i s x t t2 hargs htypes
        have hargs':c.args = #[s,x]:=by apply Array.ext'; simpa using hargs
        have htypes':c.argTypes = #[t,t2]:=by apply Array.ext'; simpa using htypes
        have hos:=hops s (by simp [ho,Op.operands,Call.operands,hargs'])
        have hox:=hops x (by simp [ho,Op.operands,Call.operands,hargs'])
        split at hx
        · rename_i b off n sz e hρ1 hρ2 hu
          rw [hρ1] at hos
          rw [hρ2] at hox
          split at hx
          · rename_i hty
            obtain ⟨rfl,hinf⟩:=hty
            obtain ⟨inf,hinf⟩:=Option.isSome_iff_exists.1 hinf
            obtain ⟨ax,hxv⟩:∃ ax,a.eval x = .slice ax 0 0:=by
              generalize a.eval x = v at hox
              cases hox with
              | nils a0=>exact ⟨a0,rfl⟩
            obtain ⟨as,cs,hsv,hle⟩:∃ as cs,a.eval s = .slice as n cs∧n≤cs:=by
              generalize a.eval s = v at hos
              cases hos with
              | slc hs =>
                obtain ⟨sl,B',c0,h1,h2,h3⟩:=hs
                rcases h3 with ⟨rfl,a0,rfl⟩ | ⟨h3,_,rfl⟩
                · exact ⟨a0,c0,rfl,Nat.zero_le _⟩
                · exact ⟨_,c0,rfl,h3⟩
            have hr:=append_nothing (P:=C.P) (w:=w) (ty:=o.type) hu hinf as ax n cs 0 hle
            rw [← hsv,← hxv] at hr
            have e0:(execOp a.eval o).run C.P w = .ok (.value (a.eval s)) w:=by
              rw [hsv] at hr ⊢
              simp [execOp,ho,resolve,hc,invoke,builtin,hargs',htypes',hr,hsv]
            unfold Oper.wp
            rw [e0,Oper.upon_value]
            exact hx _ w φ ⟨hos,R,hf,After.refl _ _ _ _⟩
          · exact hx.elim
        · exact hx.elim
      · exact hx.elim
    · exact hx.elim
    · split at hx
      · rename_i g b rest hcall
        split at hx
        · rename_i E r e' xs hE hb
          split at hx
          · rename_i rest' hp
            rw [Tree.wp_bind] at hx
            obtain ⟨blk,hout,hx⟩:=Tree.wp_out.1 hx
            obtain ⟨hent,V⟩:=EK g E hE
            obtain ⟨vals,hrun,hvals⟩:=callTo_run ho hops hcall hent
            obtain ⟨sv,vals,rfl,hv1,hv2⟩:=hvals.uncons
            obtain ⟨B,cap,us,h1,h2,h3,h4,h5,h6⟩:=own_some R hb hv1
            have hψ:∀ k,Stab w S φ k→Stab w S (fun id=>if id = b then φ b else none) k:=fun k hk=>⟨hk.1,hk.2.1,fun ⟨id,c,l,h⟩=>by
              simp only at h
              split at h
              · exact hk.2.2 ⟨_,_,_,h⟩
              · cases h⟩
            replace hv2:Reps w S (fun id=>if id = b then φ b else none) rest' vals:=by
              split at hp
              · rename_i hpure
                cases hp
                exact pure_reps hψ hv2 hpure
              · refine (lower_repsE (look:=fun id=>if id = b then none else h.get id) (fun k blk hk=>?_) hψ (fun k K c l blk hk hφ hK=>⟨hK,R.disj K ⟨_,_,_,hφ⟩,fun ⟨id,c',l',h⟩=>?_⟩) 64).2 _ _ _ hp hv2
                · simp only at hk
                  split at hk
                  · cases hk
                  · exact R.heap k blk hk
                · simp only at hk h
                  split at hk
                  · cases hk
                  · rename_i hne
                    split at h
                    · exact hne (R.inj _ _ _ _ _ _ _ hφ h)
                    · cases h
            unfold Oper.wp
            rw [hrun,Oper.upon_enter]
            refine (V r e' xs rest' blk hout w S φ b next B cap us sv vals h1 h6 h2 h3 h4 h5 hv2 hg).mono ?_
            rintro en w' ⟨x,Bn,cap',len',rfl,hp⟩
            refine hx x w' _ ⟨?_,hp.moved.rep R hg hp.blk,fun id hid=>?_,⟨hp.moved.mono hg,fun id hid hn=>?_,Nat.le_succ _⟩⟩
            · exact .own ⟨_,updE_self _ _ _,hp.fits⟩ .nil
            · simp only at hid
              exact movedE_none (by omega) (hf id (by omega))
            · exact movedE_none (by omega) hn
          · exact hx.elim
        · exact hx.elim
      · exact hx.elim
  · exact hx.elim
end
end Go.Fx
