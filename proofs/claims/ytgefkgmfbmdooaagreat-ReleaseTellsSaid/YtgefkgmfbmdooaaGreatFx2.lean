import Derived.Test.YtgefkgmfbmdooaaGreatFx1
namespace Go.Fx
open Go Go.RowKit
section
variable {P:Program} {w:World} {S:Nat→Prop} {φ:Env}
def binSem (op:BinOp) (t:TypeId) (xo yo:Operand) (x y:Value):Sem Value:=do
  eqGuard op t xo yo x y
  Go.binOp op t x y
theorem eqTop_run {t : TypeId} {a b r : AV} {x y : Value} (h : eqTop P t a b = some r) (ha : Reps w S φ [a] [x]) (hb : Reps w S φ [b] [y]) (xo yo : Operand) :
    ∃ z,(binSem .eql t xo yo x y).run P w = .ok (.bool z) w∧(binSem .neq t xo yo x y).run P w = .ok (.bool (!z)) w∧Reps w S φ [r] [.bool z]:=by
  unfold eqTop at h
  split at h <;> try (cases h; done)
  · split at h
    · cases h
    · rename_i hg
      cases ha with
      | agg ha=>cases hb with
        | agg hb =>
          obtain ⟨z,hz,hr⟩:=eqV_run h (.agg ha .nil) (.agg hb .nil) 10000 (by decide)
          refine ⟨z,?_,?_,hr⟩
          · simp [binSem,eqGuard,hg,Go.binOp,Op.equal,Op.maxDepth,hz]
          · simp [binSem,eqGuard,hg,Go.binOp,Op.equal,Op.maxDepth,hz]
  · split at h
    · rename_i h1 h2
      obtain ⟨z,hz,hr⟩:=eqV_run h ha hb 10000 (by decide)
      have key : ∀ op, op = BinOp.eql ∨ op = BinOp.neq → (eqGuard op t xo yo x y).run P w = .ok () w ∧
          (Go.binOp .eql t x y).run P w = .ok (.bool z) w∧(Go.binOp .neq t x y).run P w = .ok (.bool (!z)) w:=by
        intro op hop
        obtain ⟨dd,hdd⟩:=eqV_und h
        unfold eqV at h
        rw [hdd] at h
        have close : ∀ (u v : Value), x = u → y = v → ((∃ b c, u = .bool b ∧ v = .bool c) ∨ (∃ p q, u = .pointer p ∧ v = .pointer q) ∨ (u = .nilFunc) ∨ (v = .nilFunc ∧ ∃ f a b, u = .func f a b)) →
            (eqGuard op t xo yo x y).run P w = .ok () w∧(Go.binOp .eql t x y).run P w = .ok (.bool z) w∧(Go.binOp .neq t x y).run P w = .ok (.bool (!z)) w:=by
          intro u v hu hv hc
          subst hu; subst hv
          rcases hc with ⟨b,c,rfl,rfl⟩ | ⟨p,q,rfl,rfl⟩ | rfl | ⟨rfl,f,a,b,rfl⟩
          · exact ⟨by rcases hop with rfl | rfl <;> simp [eqGuard],by simp [Go.binOp,Op.equal,Op.maxDepth,hz],by simp [Go.binOp,Op.equal,Op.maxDepth,hz]⟩
          · exact ⟨by rcases hop with rfl | rfl <;> simp [eqGuard],by simp [Go.binOp,Op.equal,Op.maxDepth,hz],by simp [Go.binOp,Op.equal,Op.maxDepth,hz]⟩
          · refine ⟨by rcases hop with rfl | rfl <;> cases y <;> simp [eqGuard],?_,?_⟩ <;> cases y <;> simp_all [Go.binOp,Op.equal,Op.maxDepth]
          · exact ⟨by rcases hop with rfl | rfl <;> simp [eqGuard],by simp [Go.binOp,Op.equal,Op.maxDepth,hz],by simp [Go.binOp,Op.equal,Op.maxDepth,hz]⟩
        split at h <;> try (cases h; done)
        · rename_i hk
          simp [h1,h2] at h
        · split at h <;> try (cases h; done)
          rename_i l1 b1 l2 b2 h3 h4
          exact close _ _ (truth_inv h3 ha) (truth_inv h4 hb) (.inl ⟨_,_,rfl,rfl⟩)
        · split at h
          · exact (‹∀ (s:List UInt8),AV.str _ = AV.str s→False› _ rfl).elim
          · cases h
        · split at h <;> try (cases h; done)
          · cases ha; cases hb; exact close _ _ rfl rfl (.inr (.inl ⟨_,_,rfl,rfl⟩))
          · cases ha; cases hb; exact close _ _ rfl rfl (.inr (.inl ⟨_,_,rfl,rfl⟩))
          · cases ha; cases hb; exact close _ _ rfl rfl (.inr (.inl ⟨_,_,rfl,rfl⟩))
        · split at h <;> try (cases h; done)
          · cases ha; cases hb; exact close _ _ rfl rfl (.inr (.inr (.inl rfl)))
          · cases ha; cases hb; exact close _ _ rfl rfl (.inr (.inr (.inl rfl)))
          · cases ha; cases hb; exact close _ _ rfl rfl (.inr (.inr (.inr ⟨rfl,_,_,_,rfl⟩)))
        · split at h
          · exact (‹∀ (cs:List AV),AV.agg _ = AV.agg cs→False› _ rfl).elim
          · cases h
        · split at h
          · exact (‹∀ (cs:List AV),AV.agg _ = AV.agg cs→False› _ rfl).elim
          · cases h
      have k1:=key .eql (.inl rfl)
      have k2:=key .neq (.inr rfl)
      exact ⟨z,by simp [binSem,k1.1,k1.2.1],by simp [binSem,k2.1,k2.2.2],hr⟩
    · cases h
theorem binOpV_gives {op : BinOp} {t : TypeId} {a b : AV} {x y : Value} (xo yo : Operand) (ha : Reps w S φ [a] [x]) (hb : Reps w S φ [b] [y]) :
    Gives P w S φ (binOpV P op t a b) (binSem op t xo yo x y):=by
  cases op <;> simp only [binOpV]
  case add =>
    split
    · obtain ⟨s1,rfl,rfl⟩:=str_inv ha
      obtain ⟨s2,rfl,rfl⟩:=str_inv hb
      refine .asrt fun hl=>?_
      refine .ret (z:=.string (s1 ++ s2)) ?_ ?_
      · have:¬ (9223372036854775807 < ((s1.size + s2.size:Nat):Int)):=by
          have e1:s1.data.toList.length = s1.size:=by rw [Array.length_toList]; rfl
          have e2:s2.data.toList.length = s2.size:=by rw [Array.length_toList]; rfl
          omega
        have h2:IntKind.i64.max = 9223372036854775807:=by decide
        simp [binSem,eqGuard,Go.binOp,Op.stringOp,h2]
        omega
      · have:s1.data.toList ++ s2.data.toList = (s1 ++ s2).data.toList:=by simp
        rw [this]
        exact .str _ .nil
    · exact arithV_gives (s:=binSem .add t xo yo) (fun k m n=>by simp [binSem,eqGuard,Go.binOp,Op.intArith]) ha hb
  case sub=>exact arithV_gives (s:=binSem .sub t xo yo) (fun k m n=>by simp [binSem,eqGuard,Go.binOp,Op.intArith]) ha hb
  case mul=>exact arithV_gives (s:=binSem .mul t xo yo) (fun k m n=>by simp [binSem,eqGuard,Go.binOp,Op.intArith]) ha hb
  case quo=>exact divV_gives (s:=binSem .quo t xo yo) (fun k m n hn=>by simp [binSem,eqGuard,Go.binOp,Op.intDiv,hn]) ha hb
  case rem=>exact divV_gives (s:=binSem .rem t xo yo) (fun k m n hn=>by simp [binSem,eqGuard,Go.binOp,Op.intDiv,hn]) ha hb
  case and=>exact arithV_gives (s:=binSem .and t xo yo) (fun k m n=>by simp [binSem,eqGuard,Go.binOp,Op.intBits,andI]) ha hb
  case or=>exact arithV_gives (s:=binSem .or t xo yo) (fun k m n=>by simp [binSem,eqGuard,Go.binOp,Op.intBits,orI]) ha hb
  case xor=>exact arithV_gives (s:=binSem .xor t xo yo) (fun k m n=>by simp [binSem,eqGuard,Go.binOp,Op.intBits,xorI]) ha hb
  case andNot=>exact arithV_gives (s:=binSem .andNot t xo yo) (fun k m n=>by simp [binSem,eqGuard,Go.binOp,Op.intBits,andNotI]) ha hb
  case shl=>exact shiftV_gives (s:=binSem .shl t xo yo) (fun k m k' n hn=>by simp [binSem,eqGuard,Go.binOp,Op.shift,shlI,show ¬ n < 0 by omega]) ha hb
  case shr=>exact shiftV_gives (s:=binSem .shr t xo yo) (fun k m k' n hn=>by simp [binSem,eqGuard,Go.binOp,Op.shift,shrI,show ¬ n < 0 by omega]) ha hb
  case lss=>exact cmpV_gives (s:=binSem .lss t xo yo) (fun k m n=>by simp [binSem,eqGuard,Go.binOp,Op.intCmp]) ha hb
  case leq=>exact cmpV_gives (s:=binSem .leq t xo yo) (fun k m n=>by simp [binSem,eqGuard,Go.binOp,Op.intCmp]) ha hb
  case gtr=>exact cmpV_gives (s:=binSem .gtr t xo yo) (fun k m n=>by simp [binSem,eqGuard,Go.binOp,Op.intCmp]) ha hb
  case geq=>exact cmpV_gives (s:=binSem .geq t xo yo) (fun k m n=>by simp [binSem,eqGuard,Go.binOp,Op.intCmp]) ha hb
  case eql =>
    split
    · obtain ⟨s1,rfl,rfl⟩:=str_inv ha
      obtain ⟨s2,rfl,rfl⟩:=str_inv hb
      refine .ret (z:=.bool (s1.data.toList == s2.data.toList)) ?_ (.bool _ .nil)
      simp [binSem,eqGuard,Go.binOp,Op.stringOp,ByteArray.toList_eq]
    · split
      · exact cmpV_gives (s:=binSem .eql t xo yo) (fun k m n=>by simp [binSem,eqGuard,Go.binOp,Op.intCmp]) ha hb
      · refine .ofOption fun v hv=>?_
        obtain ⟨z,h1,_,h3⟩:=eqTop_run hv ha hb xo yo
        exact .ret h1 h3
  case neq =>
    split
    · obtain ⟨s1,rfl,rfl⟩:=str_inv ha
      obtain ⟨s2,rfl,rfl⟩:=str_inv hb
      refine .ret (z:=.bool (!(s1.data.toList == s2.data.toList))) ?_ (.bool _ .nil)
      simp [binSem,eqGuard,Go.binOp,Op.stringOp,ByteArray.toList_eq]
    · split
      · exact cmpV_gives (s:=binSem .neq t xo yo) (fun k m n=>by simp [binSem,eqGuard,Go.binOp,Op.intCmp]) ha hb
      · refine .ofOption fun v hv=>?_
        split at hv
        · rename_i r hr
          obtain ⟨z,_,h2,h3⟩:=eqTop_run hr ha hb xo yo
          exact .ret h2 (notAV_inv hv h3)
        · cases hv
theorem unOpV_gives {op:UnOp} {a:AV} {x:Value} (ha:Reps w S φ [a] [x]):Gives P w S φ (unOpV op a) (Op.unary op x):=by
  cases op <;> simp only [unOpV] <;> try exact .fail _
  case neg =>
    split
    · rename_i l k n h
      cases num_inv h ha
      exact .ret (by simp [Op.unary,Op.intArith]) (mkInt_rep _ _ _)
    · exact .fail _
  case not =>
    refine .ofOption fun v hv=>?_
    unfold notAV at hv
    split at hv <;> try (cases hv; done)
    · cases hv; cases ha; exact .ret (by simp [Op.unary]) (.blit _ .nil)
    · cases hv; cases ha; exact .ret (by simp [Op.unary]) (.bool _ .nil)
theorem pickV_gives {c a b : AV} {x y z : Value} (hc : Reps w S φ [c] [x]) (ha : Reps w S φ [a] [y]) (hb : Reps w S φ [b] [z]) :
    Gives P w S φ (pickV c a b) (do pure (if ← asBool x then y else z)):=by
  unfold pickV
  split
  · cases hc; exact .ret (by simp [asBool]) ha
  · cases hc; exact .ret (by simp [asBool]) hb
  · rename_i b'
    cases hc
    intro Q hQ
    cases b' with
    | true=>exact ⟨y,a,by simp [asBool],hQ.1 rfl,ha⟩
    | false=>exact ⟨z,b,by simp [asBool],hQ.2 rfl,hb⟩
  · exact .fail _
theorem fieldOf_inv {s:TypeId} {f o n:Nat} {ft:TypeId} (h:fieldOf P s f = some (o,n,ft)):∃ fs fd,P.underlying s = some (.struct fs)∧fs[f]? = some fd∧fd.offset = o∧fd.type = ft∧szOf P ft = some n:=by
  unfold fieldOf at h
  split at h
  · rename_i fs hu
    split at h
    · rename_i fd hfd
      split at h
      · rename_i m hm
        cases h
        exact ⟨fs,fd,hu,hfd,rfl,rfl,hm⟩
      · cases h
    · cases h
  · cases h
theorem fieldPlace_run {a:Addr} {fd:Field} {n:Nat} (h:szOf P fd.type = some (n + 1)):(fieldPlace a fd).run P w = .ok (a.add fd.offset) w:=by
  simp [fieldPlace,szOf_run h]
theorem Addr.add_plain (b o n:Nat):(⟨b,o,none⟩:Addr).add n = ⟨b,o + n,none⟩:=by unfold Addr.add; split <;> simp_all
theorem cellsAt.drop {B o:Nat} {us:List Value} (h:cellsAt w B o us) (n:Nat):cellsAt w B (o + n) (us.drop n):=by
  intro j u hj
  rw [List.getElem?_drop] at hj
  have:=h _ _ hj
  rwa [show o + n + j = o + (n + j) by omega]
theorem cellsAt.take {B o:Nat} {us:List Value} (h:cellsAt w B o us) (n:Nat):cellsAt w B o (us.take n):=by
  intro j u hj
  rw [List.getElem?_take] at hj
  split at hj
  · exact h _ _ hj
  · cases hj
theorem fieldAddrV_gives {s:TypeId} {a:AV} {x:Value} {f:Nat} (ha:Reps w S φ [a] [x]):Gives P w S φ (fieldAddrV P s a f) (Instr.fieldAt s x f):=by
  unfold fieldAddrV
  split
  · rename_i o n ft hf
    obtain ⟨fs,fd,hu,hfd,rfl,rfl,hsz⟩:=fieldOf_inv hf
    split
    · rename_i b off
      cases ha with
      | ptr h =>
        obtain ⟨sl,B,h1,h2,rfl⟩:=h
        refine .ret (z:=.pointer (some ⟨B,off + fd.offset,none⟩)) ?_ (.ptr ⟨sl,B,h1,h2,rfl⟩ .nil)
        simp [Instr.fieldAt,und_run hu,hfd,Instr.sureAddr,fieldPlace_run hsz,Addr.add_plain]
    · rename_i b r i off
      cases ha with
      | rptr h =>
        obtain ⟨sl,B,h1,h2,rfl⟩:=h
        refine .ret (z:=.pointer (some ⟨B,i.toNat * r.size + (off + fd.offset),none⟩)) ?_ (.rptr ⟨sl,B,h1,h2,rfl⟩ .nil)
        simp [Instr.fieldAt,und_run hu,hfd,Instr.sureAddr,fieldPlace_run hsz,Addr.add_plain,Nat.add_assoc]
    · rename_i cs
      split
      · rename_i hle
        cases ha with
        | pv hs hc hr =>
          refine .ret (z:=.pointer (some ⟨_,_ + fd.offset,none⟩)) ?_ (.pv hs (hc.drop fd.offset) (hr.drop fd.offset) .nil)
          simp [Instr.fieldAt,und_run hu,hfd,Instr.sureAddr,fieldPlace_run hsz,Addr.add_plain]
      · exact .fail _
    · exact .fail _
  · exact .fail _
theorem cellsAt_block {B:Nat} {us:Array Value} {e:TypeId} {fr:Nat × Nat} (h:w.heap[B]? = some (.cells us e fr)):cellsAt w B 0 us.toList:=by
  intro j u hj
  simp only [World.cell?,h,Nat.zero_add]
  rw [Array.getElem?_toList] at hj
  simpa using hj
theorem loadVar_run {t : TypeId} {cs : List AV} {off B o : Nat} {v : AV} (h : partAV P t cs off = some v) {us : List Value} (hr : Reps w S φ cs us) (hc : cellsAt w B o us) :
    ∃ z,(loadVar t ⟨B,o + off,none⟩).run P w = .ok z w∧Reps w S φ [v] [z]:=by
  obtain ⟨n,hn,hle,h⟩:=partAV_inv h hr
  obtain ⟨d,hd⟩:=szOf_und hn
  have hl:=hr.len
  rcases h with ⟨hagg,rfl,hv⟩ | ⟨hagg,rfl,c,z,hg,rfl,hz,hv⟩
  · refine ⟨_,?_,hv⟩
    have hcs:=(hc.drop off).take n
    have hlen:((us.drop off).take n).length = n:=by simp; omega
    have hl2:=run_loadCells_list (P:=P) w ⟨B,o + off,none⟩ ((us.drop off).take n) (fun j u hj=>by rw [Addr.add_plain]; exact hcs j u hj)
    rw [hlen] at hl2
    simp only [loadVar,Sem.run_bind,isAgg_run hd,hagg,Result.andThen_ok,if_true,szOf_run hn,hl2,Sem.run_pure]
  · refine ⟨z,?_,hv⟩
    simp only [loadVar,Sem.run_bind,isAgg_run hd,hagg,Result.andThen_ok,if_false,Bool.false_eq_true,run_load,hc off z hz]
theorem enc_len:∀ (r:RTy) (x:r.carrier),(r.enc x).length = r.size
  | .int _,_=>rfl
  | .bool,_=>rfl
  | .str,_=>rfl
  | .ints _,_=>rfl
  | .spec,_=>rfl
  | .spr,_=>rfl
  | .fix,_=>rfl
  | .item,_=>rfl
  | .live,_=>rfl
  | .ape,_=>rfl
  | .opt,_=>rfl
  | .task,_=>rfl
  | .aim,_=>rfl
  | .op,_=>rfl
theorem flatMap_len (r:RTy):∀ xs:List r.carrier,(xs.flatMap r.enc).length = xs.length * r.size
  | []=>by simp
  | x :: xs=>by simp [List.flatMap_cons,flatMap_len r xs,enc_len,Nat.add_mul,Nat.add_comm]
theorem flatMap_row (r:RTy):∀ (xs:List r.carrier) (i:Nat) (h:i < xs.length),((xs.flatMap r.enc).drop (i * r.size)).take r.size = r.enc xs[i]
  | x :: xs,0,_=>by
    simp only [List.flatMap_cons,Nat.zero_mul,List.drop_zero,List.getElem_cons_zero]
    rw [← enc_len r x,List.take_left]
  | x :: xs,i + 1,h=>by
    have ih:=flatMap_row r xs i (by simpa using h)
    simp only [List.flatMap_cons,List.getElem_cons_succ]
    rw [← ih]
    congr 1
    rw [show (i + 1) * r.size = (r.enc x).length + i * r.size by rw [enc_len,Nat.add_mul]; omega,List.drop_append,List.drop_eq_nil_of_le (by omega),List.nil_append,Nat.add_sub_cancel_left]
theorem rd_eq (r:RTy) (xs:List r.carrier) (i:Int) (h0:0≤i) (h:i < xs.length):∃ h':i.toNat < xs.length,rd r xs i = xs[i.toNat]:=by
  have h':i.toNat < xs.length:=by omega
  exact ⟨h',by simp [rd,h']⟩
theorem row_reps {r : RTy} {xs : List r.carrier} {us : List Value} {B o : Nat} {i : Int} (hr : Reps w S φ (xs.flatMap r.enc) us) (hc : cellsAt w B o us) (h0 : 0 ≤ i) (h : i < xs.length) :
    Reps w S φ (r.enc (rd r xs i)) ((us.drop (i.toNat * r.size)).take r.size)∧cellsAt w B (o + i.toNat * r.size) ((us.drop (i.toNat * r.size)).take r.size):=by
  obtain ⟨h',e⟩:=rd_eq r xs i h0 h
  refine ⟨?_,(hc.drop _).take _⟩
  rw [e,← flatMap_row r xs _ h']
  exact (hr.drop _).take _
theorem ownsRow_cells {e:TypeId} {size B cap len:Nat} {us:List Value} (h:w.ownsRow 0 e size (.slice (baseOf (some B)) len cap) len us):cellsAt w B 0 us:=by
  obtain ⟨h1,h2⟩:=h
  rcases h2 with ⟨h2,_⟩ | ⟨g,c,cur,hv,_,hh,h3,h4,h5,h6⟩
  · simp [baseOf] at h2
  · simp [baseOf] at hv
    obtain ⟨rfl,rfl⟩:=hv
    have:=(cellsAt_block hh).take (len * size)
    rwa [h6] at this
theorem loadV_gives {look : Nat → Option Blk} (HL : HeapRep w S φ look) {t : TypeId} {a : AV} {x : Value} (ha : Reps w S φ [a] [x]) :
    Gives P w S φ (loadV P look t a) (Instr.loadAt t x):=by
  unfold loadV
  split
  · rename_i b off
    cases ha with
    | ptr h =>
      obtain ⟨sl,B,h1,h2,rfl⟩:=h
      split
      · rename_i cs hl
        obtain ⟨B',cap,len,h3,B'',us,e,rfl,h4,h5,h6⟩:=HL _ _ hl
        rw [h1] at h3
        cases h3
        cases h2
        refine .ofOption fun v hv=>?_
        obtain ⟨z,hz,hr⟩:=loadVar_run hv h6 (cellsAt_block h4)
        refine .ret (z:=z) ?_ hr
        simpa [Instr.loadAt,Instr.sureAddr] using hz
      · exact .fail _
  · rename_i cs
    cases ha with
    | pv hs hc hr =>
      refine .ofOption fun v hv=>?_
      obtain ⟨z,hz,hr⟩:=loadVar_run hv hr hc
      refine .ret (z:=z) ?_ hr
      simpa [Instr.loadAt,Instr.sureAddr] using hz
  · rename_i b r i off
    cases ha with
    | rptr h =>
      obtain ⟨sl,B,h1,h2,rfl⟩:=h
      split
      · rename_i r' e xs hl
        split
        · rename_i hr'
          subst hr'
          obtain ⟨B',cap,len,h3,rfl,us,h4,h5,h6⟩:=HL _ _ hl
          rw [h1] at h3
          cases h3
          cases h2
          refine .asrt fun hi=>?_
          refine .ofOption fun v hv=>?_
          obtain ⟨h7,h8⟩:=row_reps h5 (ownsRow_cells h4) hi.1 hi.2
          obtain ⟨z,hz,hr⟩:=loadVar_run hv h7 h8
          refine .ret (z:=z) ?_ hr
          simpa [Instr.loadAt,Instr.sureAddr] using hz
        · exact .fail _
      · exact .fail _
  · exact .fail _
theorem fieldV_gives {s:TypeId} {a:AV} {x:Value} {f:Nat} (ha:Reps w S φ [a] [x]):Gives P w S φ (fieldV P s a f) (Instr.field s x f):=by
  unfold fieldV
  split
  · rename_i o n ft cs hf
    obtain ⟨fs,fd,hu,hfd,rfl,rfl,hsz⟩:=fieldOf_inv hf
    cases ha with
    | agg h =>
      refine .ofOption fun v hv=>?_
      obtain ⟨d,hd⟩:=szOf_und hsz
      obtain ⟨z,hz,hr⟩:=part_gives (S:=S) (us:=_) hd hv (by simpa using h)
      refine .ret (z:=z) ?_ hr
      simp [Instr.field,und_run hu,hfd,asAgg,hz]
  · exact .fail _
theorem indexAddrV_gives {look : Nat → Option Blk} (HL : HeapRep w S φ look) {t : TypeId} {a b : AV} {x y : Value} (ha : Reps w S φ [a] [x]) (hb : Reps w S φ [b] [y]) :
    Gives P w S φ (indexAddrV P look t a b) (Instr.indexAt t x y):=by
  unfold indexAddrV
  split
  · rename_i l k i e hn hu
    cases num_inv hn hb
    split
    · exact .fail _
    · rename_i sz hsz
      split
      · rename_i r xs
        split
        · rename_i hrs
          refine .asrt fun hi=>?_
          cases ha with
          | view0 _ _ hx=>subst hx; simp at hi; omega
          | view _ _ c hc0 hs hc hr =>
            obtain ⟨h7,h8⟩:=row_reps hr hc hi.1 hi.2
            refine .ret (z:=.pointer (some ⟨_,_ + i.toNat * r.size,none⟩)) ?_ (.pv hs h8 h7 .nil)
            simp [Instr.indexAt,asIntOf,und_run hu,hi.1,hi.2,szOf_run hsz,Addr.add_plain,hrs]
        · exact .fail _
      · rename_i b'
        split
        · rename_i r e' xs hl
          split
          · rename_i hrs
            refine .asrt fun hi=>?_
            cases ha with
            | own h =>
              obtain ⟨sl,h1,hv⟩:=h
              obtain ⟨B',cap,len,h3,rfl,us,h4,h5,h6⟩:=HL _ _ hl
              rw [h1] at h3
              cases h3
              cases B' with
              | none =>
                obtain ⟨_,h7⟩:=h4
                rcases h7 with ⟨_,h7⟩ | ⟨g,c,cur,hv,_⟩
                · have:xs.length = 0:=h7
                  omega
                · simp [baseOf] at hv
              | some B =>
                simp only [Slot.fits] at hv
                subst hv
                refine .ret (z:=.pointer (some ⟨B,i.toNat * r.size,none⟩)) ?_ (.rptr ⟨_,B,h1,rfl,by simp⟩ .nil)
                simp [Instr.indexAt,asIntOf,und_run hu,hi.1,hi.2,szOf_run hsz,Addr.add_plain,hrs]
          · exact .fail _
        · exact .fail _
      · rename_i b' off n sz'
        split
        · rename_i hc
          obtain ⟨_,rfl,h0,hlt⟩:=hc
          cases ha with
          | slc h =>
            obtain ⟨sl,B,c,h1,h2,h3⟩:=h
            rcases h3 with ⟨rfl,_⟩ | ⟨h3,h4,rfl⟩
            · exfalso; simp at hlt; omega
            · refine .ret (z:=.pointer (some ⟨B,off + i.toNat * sz',none⟩)) ?_ (.ptr ⟨sl,B,h1,h2,rfl⟩ .nil)
              simp [Instr.indexAt,asIntOf,und_run hu,h0,hlt,szOf_run hsz,Addr.add_plain]
        · exact .fail _
      · rename_i n cs
        split
        · rename_i hc
          obtain ⟨_,h0,hlt,hle⟩:=hc
          cases ha with
          | lv0=>exfalso; simp at hlt; omega
          | lv _ c hc0 hs hc hr =>
            refine .ret (z:=.pointer (some ⟨_,_ + i.toNat * sz,none⟩)) ?_ (.pv hs (hc.drop _) (hr.drop _) .nil)
            simp [Instr.indexAt,asIntOf,und_run hu,h0,hlt,szOf_run hsz,Addr.add_plain]
        · exact .fail _
      · exact .fail _
  · rename_i l k i n e hn hu
    cases num_inv hn hb
    split
    · exact .fail _
    · rename_i sz hsz
      split
      · rename_i b' off
        split
        · rename_i hc
          obtain ⟨_,h0,hlt⟩:=hc
          cases ha with
          | ptr h =>
            obtain ⟨sl,B,h1,h2,rfl⟩:=h
            refine .ret (z:=.pointer (some ⟨B,off + i.toNat * sz,none⟩)) ?_ (.ptr ⟨sl,B,h1,h2,rfl⟩ .nil)
            simp [Instr.indexAt,Instr.sureAddr,asIntOf,und_run hu,h0,hlt,szOf_run hsz,Addr.add_plain]
        · exact .fail _
      · rename_i cs
        split
        · rename_i hc
          obtain ⟨_,h0,hlt,hle⟩:=hc
          cases ha with
          | pv hs hc hr =>
            refine .ret (z:=.pointer (some ⟨_,_ + i.toNat * sz,none⟩)) ?_ (.pv hs (hc.drop _) (hr.drop _) .nil)
            simp [Instr.indexAt,Instr.sureAddr,asIntOf,und_run hu,h0,hlt,szOf_run hsz,Addr.add_plain]
        · exact .fail _
      · exact .fail _
  · exact .fail _
end
end Go.Fx
namespace Go.Fx
open Go Go.RowKit
section
variable {P:Program} {w:World} {S:Nat→Prop} {φ:Env}
theorem ofCell_reps (v:Value):Reps w S φ [ofCell v] [v]:=by
  unfold ofCell
  split
  · exact .blit _ .nil
  · exact .lit _ _ .nil
  · exact .str _ .nil
  · exact .nilp .nil
  · exact .nils _ .nil
  · exact .nilmap .nil
  · exact .nilfn .nil
  · exact .niliface .nil
  · exact .any _ .nil
theorem ofCells_reps:∀ vs:List Value,Reps w S φ (vs.map ofCell) vs
  | []=>.nil
  | v :: vs=>(ofCell_reps v).cons (ofCells_reps vs)
theorem ofValue_reps (v:Value):Reps w S φ [ofValue v] [v]:=by
  unfold ofValue
  split
  · rename_i cs
    exact .agg (ofCells_reps cs.toList) .nil
  · exact ofCell_reps _
theorem evO_reps {ts:List AV} {a:Act} (h:Reps w S φ ts a.tmps.toList) (x:Operand):Reps w S φ [evO ts x] [a.eval x]:=by
  cases x with
  | tmp t =>
    have:=h.nth t
    simpa [evO,Act.eval] using this
  | const v=>exact ofValue_reps v
  | global g=>exact .any _ .nil
  | func f=>exact .fn (.func f) .nil .nil .nil
theorem zeroAV_run {t:TypeId} {z:AV} (h:zeroAV P t = some z):∃ i v,P.info? t = some i∧i.zero = some v∧z = ofValue v∧(zeroValue t).run P w = .ok v w:=by
  unfold zeroAV at h
  split at h
  · rename_i i hi
    split at h
    · rename_i v hv
      cases h
      exact ⟨i,v,hi,hv,rfl,by simp [zeroValue,typeInfo,hi,hv]⟩
    · cases h
  · cases h
theorem cells_reps {a:AV} {v:Value} (h:Reps w S φ [a] [v]) (hn:a≠.any):Reps w S φ a.cells v.cells.toList:=by
  cases h with
  | any=>exact absurd rfl hn
  | agg h=>simpa [AV.cells,Value.cells] using h
  | lit=>exact .lit _ _ .nil
  | int=>exact .int _ _ .nil
  | blit=>exact .blit _ .nil
  | bool=>exact .bool _ .nil
  | str=>exact .str _ .nil
  | nilp=>exact .nilp .nil
  | ptr h=>obtain ⟨s,B,h1,h2,rfl⟩:=h; exact .ptr ⟨s,B,h1,h2,rfl⟩ .nil
  | rptr h=>obtain ⟨s,B,h1,h2,rfl⟩:=h; exact .rptr ⟨s,B,h1,h2,rfl⟩ .nil
  | pv a b c=>exact .pv a b c .nil
  | nils=>exact .nils _ .nil
  | own h =>
    have h0:=h
    obtain ⟨s,h1,h2⟩:=h
    obtain ⟨a,l,c,rfl⟩:=Slot.fits_slice h2
    exact .own h0 .nil
  | slc h =>
    have h0:=h
    obtain ⟨s,B,c,h1,h2,h3⟩:=h
    rcases h3 with ⟨_,a,rfl⟩ | ⟨_,_,rfl⟩ <;> exact .slc h0 .nil
  | view0 _ _ hx=>exact .view0 _ _ hx _ _ .nil
  | fv0 _ _ hx=>exact .fv0 _ _ hx _ .nil
  | fv _ _ a b c=>exact .fv _ _ a b c .nil
  | view _ _ _ a b c d=>exact .view _ _ _ a b c d .nil
  | lv0=>exact .lv0 _ _ .nil
  | lv _ _ a b c d=>exact .lv _ _ a b c d .nil
  | fn _ a b=>exact .fn _ a b .nil
  | nilfn=>exact .nilfn .nil
  | iface _ h=>exact .iface _ h .nil
  | niliface=>exact .niliface .nil
  | map h=>obtain ⟨s,B,h1,h2,rfl⟩:=h; exact .map ⟨s,B,h1,h2,rfl⟩ .nil
  | nilmap=>exact .nilmap .nil
  | tup h=>exact .tup h .nil
theorem selBools_reps:∀ {cs:List AV} {bs:List Bool} {us:List Value},selBools cs = some bs→Reps w S φ cs us→bs.length = cs.length∧us = bs.map Value.bool
  | [],bs,us,h,hr=>by
    cases h; cases hr.nil_inv; exact ⟨rfl,rfl⟩
  | a :: cs,bs,us,h,hr=>by
    unfold selBools at h
    split at h
    · rename_i x xs hx hxs
      cases h
      obtain ⟨v,us,rfl,h1,h2⟩:=hr.uncons
      obtain ⟨h3,rfl⟩:=selBools_reps hxs h2
      refine ⟨by simp [h3],?_⟩
      unfold AV.b at hx
      split at hx <;> cases hx
      · cases h1; rfl
      · cases h1; rfl
    · cases h
theorem asIntK_inv {k:IntKind} {a:AV} {n:Int} (h:a.asIntK k = some n) {v:Value} (hr:Reps w S φ [a] [v]):v = .int k n:=by
  unfold AV.asIntK at h
  split at h <;> try (cases h; done)
  · split at h
    · rename_i hk; subst hk; cases h; cases hr; rfl
    · cases h
  · split at h
    · rename_i hk; subst hk; cases h; cases hr; rfl
    · cases h
theorem selInts_reps {k:IntKind}:∀ {cs:List AV} {ns:List Int} {us:List Value},selInts k cs = some ns→Reps w S φ cs us→ns.length = cs.length∧us = ns.map (Value.int k)
  | [],ns,us,h,hr=>by
    cases h; cases hr.nil_inv; exact ⟨rfl,rfl⟩
  | a :: cs,ns,us,h,hr=>by
    unfold selInts at h
    split at h
    · rename_i x xs hx hxs
      cases h
      obtain ⟨v,us,rfl,h1,h2⟩:=hr.uncons
      obtain ⟨h3,rfl⟩:=selInts_reps hxs h2
      exact ⟨by simp [h3],by rw [asIntK_inv hx h1]; rfl⟩
    · cases h
theorem indexV_gives {t:TypeId} {a b:AV} {x y:Value} (ha:Reps w S φ [a] [x]) (hb:Reps w S φ [b] [y]):Gives P w S φ (indexV P t a b) (Instr.index t x y):=by
  unfold indexV
  split
  · rename_i l k i n e cs hn hu
    cases num_inv hn hb
    cases ha with
    | agg h =>
      rename_i us _
      cases l with
      | true =>
        simp only
        split
        · rename_i sz hsz
          split
          · rename_i hc
            refine .ofOption fun v hv=>?_
            obtain ⟨d,hd⟩:=szOf_und hsz
            obtain ⟨z,hz,hr⟩:=part_gives (S:=S) (us:=us.toArray) hd hv (by simpa using h)
            refine .ret (z:=z) ?_ hr
            simp [Instr.index,asIntOf,und_run hu,hc.1,hc.2,szOf_run hsz,hz]
          · exact .fail _
        · exact .fail _
      | false =>
        simp only
        split
        · exact .fail _
        · rename_i hc
          simp only [Bool.or_eq_true,bne_iff_ne,ne_eq,not_or,Bool.not_eq_true,Decidable.not_not] at hc
          obtain ⟨⟨hagg,hsz⟩,hlen⟩:=hc
          obtain ⟨d,hd⟩:=szOf_und hsz
          have key:∀ z:Value,us[i.toNat]? = some z→0≤i→i < n→(Instr.index t (.agg us.toArray) (.int k i)).run P w = .ok z w:=by
            intro z hz h0 hlt
            simp [Instr.index,asIntOf,und_run hu,h0,hlt,szOf_run hsz,part,isAgg_run hd,hagg,hz]
          split
          · rename_i bs hbs
            obtain ⟨h1,rfl⟩:=selBools_reps hbs h
            refine .asrt fun hi=>.ret (key _ ?_ hi.1 hi.2) (.bool _ .nil)
            have:i.toNat < bs.length:=by omega
            simp [this]
          · rename_i ns _ hns
            obtain ⟨h1,rfl⟩:=selInts_reps hns h
            refine .asrt fun hi=>.ret (key _ ?_ hi.1 hi.2) (.int _ _ .nil)
            have:i.toNat < ns.length:=by omega
            simp [this]
          · exact .fail _
  · rename_i l k i s hn hu
    cases num_inv hn hb
    obtain ⟨s,rfl,rfl⟩:=str_inv ha
    refine .asrt fun hi=>?_
    have hlt:i.toNat < s.data.toList.length:=by omega
    have hlt':i.toNat < s.size:=by rw [Array.length_toList] at hlt; exact hlt
    refine .ret (z:=.int .u8 ((s.data.toList.getD i.toNat 0).toNat:Int)) ?_ (.int _ _ .nil)
    have e:s[i.toNat]? = some s[i.toNat]:=by simp [hlt']
    have e2:s.data.toList.getD i.toNat 0 = s[i.toNat]:=by
      have h3:i.toNat < s.data.size:=by rw [Array.length_toList] at hlt; exact hlt
      have h4:s.data[i.toNat]? = some s.data[i.toNat]:=Array.getElem?_eq_getElem h3
      simp only [List.getD,Array.getElem?_toList,h4,Option.getD_some]
      rfl
    rw [e2]
    simp [Instr.index,asIntOf,und_run hu,hi.1,e]
  · exact .fail _
def OB:Option (Bool × Int)→Option Value→Prop
  | none,none=>True
  | some (_,n),some v=>∃ k,v = .int k n
  | _,_=>False
theorem boundV_inv {ρ:Operand→AV} {η:Operand→Value} {x:Option Operand} (h:∀ o,x = some o→Reps w S φ [ρ o] [η o]) {b:Option (Bool × Int)} (hb:boundV (x.map ρ) = some b):OB b (x.map η):=by
  cases x with
  | none=>simp only [boundV,Option.map_none,Option.some.injEq] at hb; subst hb; trivial
  | some o =>
    simp only [boundV,Option.map_some] at hb
    split at hb
    · rename_i l k n hn
      cases hb
      exact ⟨k,num_inv hn (h o rfl)⟩
    · cases hb
theorem sliceBound_run {k:IntKind} {n:Int} {y:Nat} {code:BoundsCode} (h0:0≤n) (h:n≤y):(Instr.sliceBound (.int k n) y code).run P w = .ok n.toNat w:=by
  simp [Instr.sliceBound,asIntOf,h0,h]
theorem sliceBounds_run {isSlice : Bool} {len cap : Nat} {lo hi mx : Option (Bool × Int)} {vlo vhi vmx : Option Value} (h1 : OB lo vlo) (h2 : OB hi vhi) (h3 : OB mx vmx) {l h m : Nat}
    (hl:(l:Int) = lowOf lo) (hh:(h:Int) = highOf hi (len:Int)) (hm:(m:Int) = highOf mx (cap:Int))
    (hlh:l≤h) (hhm:hi≠none→h≤m) (hmc:m≤cap) (hx:mx≠none→hi≠none) :
    (Instr.sliceBounds isSlice len cap vlo vhi vmx).run P w = .ok (l,h,m) w:=by
  have e0:(0:Int)≤lowOf lo:=by omega
  unfold Instr.sliceBounds
  cases mx with
  | none =>
    cases vmx with
    | some v=>exact h3.elim
    | none =>
      have em:m = cap:=by simp [highOf] at hm; omega
      subst em
      cases hi with
      | none =>
        cases vhi with
        | some v=>exact h2.elim
        | none =>
          have eh:h = len:=by simp [highOf] at hh; omega
          subst eh
          cases lo with
          | none=>cases vlo with
            | some v=>exact h1.elim
            | none =>
              simp only [lowOf] at hl
              have:l = 0:=by omega
              subst this
              simp
          | some p=>obtain ⟨b,n⟩:=p; cases vlo with
            | none=>exact h1.elim
            | some v =>
              obtain ⟨k,rfl⟩:=h1
              simp only [lowOf] at hl e0
              simp [sliceBound_run (P:=P) (w:=w) (k:=k) (code:=.sliceB) e0 (show n≤(h:Int) by omega)]
              omega
      | some q=>obtain ⟨b2,n2⟩:=q; cases vhi with
        | none=>exact h2.elim
        | some v2 =>
          obtain ⟨k2,rfl⟩:=h2
          simp only [highOf] at hh
          have hb:=hhm (by simp)
          cases lo with
          | none=>cases vlo with
            | some v=>exact h1.elim
            | none =>
              simp only [lowOf] at hl
              have:l = 0:=by omega
              subst this
              simp [sliceBound_run (P:=P) (w:=w) (k:=k2) (code:=if isSlice then .sliceAcap else .sliceAlen) (show 0≤n2 by omega) (show n2≤(m:Int) by omega)]
              omega
          | some p=>obtain ⟨b,n⟩:=p; cases vlo with
            | none=>exact h1.elim
            | some v =>
              obtain ⟨k,rfl⟩:=h1
              simp only [lowOf] at hl e0
              simp [sliceBound_run (P:=P) (w:=w) (k:=k2) (code:=if isSlice then .sliceAcap else .sliceAlen) (show 0≤n2 by omega) (show n2≤(m:Int) by omega),
                sliceBound_run (P:=P) (w:=w) (k:=k) (code:=.sliceB) e0 (show n≤(n2.toNat:Int) by omega)]
              omega
  | some r=>obtain ⟨b3,n3⟩:=r; cases vmx with
    | none=>exact h3.elim
    | some v3 =>
      obtain ⟨k3,rfl⟩:=h3
      simp only [highOf] at hm
      cases hi with
      | none=>exact absurd rfl (hx (by simp))
      | some q=>obtain ⟨b2,n2⟩:=q; cases vhi with
        | none=>exact h2.elim
        | some v2 =>
          obtain ⟨k2,rfl⟩:=h2
          simp only [highOf] at hh
          have hb:=hhm (by simp)
          cases lo with
          | none=>cases vlo with
            | some v=>exact h1.elim
            | none =>
              simp only [lowOf] at hl
              have:l = 0:=by omega
              subst this
              simp [sliceBound_run (P:=P) (w:=w) (k:=k3) (code:=if isSlice then .slice3Acap else .slice3Alen) (show 0≤n3 by omega) (show n3≤(cap:Int) by omega),
                sliceBound_run (P:=P) (w:=w) (k:=k2) (code:=.slice3B) (show 0≤n2 by omega) (show n2≤(n3.toNat:Int) by omega)]
              omega
          | some p=>obtain ⟨b,n⟩:=p; cases vlo with
            | none=>exact h1.elim
            | some v =>
              obtain ⟨k,rfl⟩:=h1
              simp only [lowOf] at hl e0
              simp [sliceBound_run (P:=P) (w:=w) (k:=k3) (code:=if isSlice then .slice3Acap else .slice3Alen) (show 0≤n3 by omega) (show n3≤(cap:Int) by omega),
                sliceBound_run (P:=P) (w:=w) (k:=k2) (code:=.slice3B) (show 0≤n2 by omega) (show n2≤(n3.toNat:Int) by omega),
                sliceBound_run (P:=P) (w:=w) (k:=k) (code:=.slice3C) e0 (show n≤(n2.toNat:Int) by omega)]
              omega
theorem sliceAt_run {t e : TypeId} {sz : Nat} (hu : P.underlying t = some (.slice e)) (hsz : szOf P e = some sz) {a : Option Addr} {len cap l h m : Nat} {vlo vhi vmx : Option Value}
    (hb:(Instr.sliceBounds true len cap vlo vhi vmx).run P w = .ok (l,h,m) w) :
    (Instr.sliceAt t (.slice a len cap) vlo vhi vmx).run P w = .ok (.slice (if m = l then a else a.map (·.add (l * sz))) (h - l) (m - l)) w:=by
  simp [Instr.sliceAt,Instr.slice,und_run hu,hb,szOf_run hsz]
theorem flatMap_takeDrop (r:RTy) (xs:List r.carrier) (l h:Nat):((xs.take h).drop l).flatMap r.enc = ((xs.flatMap r.enc).take (h * r.size)).drop (l * r.size):=by
  have h1:∀ (n:Nat) (ys:List r.carrier),(ys.take n).flatMap r.enc = (ys.flatMap r.enc).take (n * r.size):=by
    intro n
    induction n with
    | zero=>intro ys; simp
    | succ n ih =>
      intro ys
      cases ys with
      | nil=>simp
      | cons y ys =>
        simp only [List.take_succ_cons,List.flatMap_cons,ih]
        rw [List.take_append,enc_len,List.take_of_length_le (l:=r.enc y) (by rw [enc_len,Nat.add_mul]; omega),show (n + 1) * r.size - r.size = n * r.size by rw [Nat.add_mul]; omega]
  have h2:∀ (n:Nat) (ys:List r.carrier),(ys.drop n).flatMap r.enc = (ys.flatMap r.enc).drop (n * r.size):=by
    intro n
    induction n with
    | zero=>intro ys; simp
    | succ n ih =>
      intro ys
      cases ys with
      | nil=>simp
      | cons y ys =>
        simp only [List.drop_succ_cons,List.flatMap_cons,ih]
        rw [List.drop_append,enc_len,List.drop_eq_nil_of_le (as:=r.enc y) (by rw [enc_len,Nat.add_mul]; omega),List.nil_append,show (n + 1) * r.size - r.size = n * r.size by rw [Nat.add_mul]; omega]
  rw [h2,h1]
theorem view_part {r : RTy} {xs : List r.carrier} {x : Value} (ha : Reps w S φ [.view r xs] [x]) {sz l h : Nat} (hrs : r.size = sz) (hlh : l ≤ h) (hx : h ≤ xs.length) :
    ∃ a len cap,x = .slice a len cap∧len = xs.length∧xs.length≤cap∧∀ m,h≤m→Reps w S φ [.view r ((xs.take h).drop l)] [.slice (if m = l then a else a.map (·.add (l * sz))) (h - l) (m - l)]:=by
  subst hrs
  cases ha with
  | view0 _ _ hx' a c =>
    subst hx'
    refine ⟨a,0,c,rfl,rfl,by simp,fun m hm=>?_⟩
    have:h - l = 0:=by simp at hx; omega
    rw [this]
    exact .view0 _ _ (by simp) _ _ .nil
  | view _ _ c hc0 hs hc hr =>
    rename_i us B o _
    refine ⟨_,_,c,rfl,rfl,hc0,fun m hm=>?_⟩
    by_cases e:h - l = 0
    · rw [e]
      exact .view0 _ _ (by rw [List.drop_eq_nil_of_le (by simp; omega)]) _ _ .nil
    · have hm':m≠l:=by omega
      rw [if_neg hm']
      simp only [Option.map_some,Addr.add_plain]
      have hlen:h - l = ((xs.take h).drop l).length:=by simp; omega
      rw [hlen]
      refine .view _ _ _ (by rw [← hlen]; omega) hs (us:=(us.take (h * r.size)).drop (l * r.size)) ((hc.take _).drop _) ?_ .nil
      · rw [flatMap_takeDrop]
        exact (hr.take _).drop _
theorem fv_of_view {r:RTy} {xs:List r.carrier} {a:Option Addr} {n:Nat} (h:Reps w S φ [.view r xs] [.slice a n n]):Reps w S φ [.fv r xs] [.slice a n n]:=by
  cases h with
  | view0 _ _ hx=>exact .fv0 _ _ hx _ .nil
  | view _ _ _ _ hs hc hr=>exact .fv _ _ hs hc hr .nil
theorem sliceV_gives {t : TypeId} {a : AV} {x : Value} (ha : Reps w S φ [a] [x]) {ρ : Operand → AV} {η : Operand → Value} {lo hi mx : Option Operand}
    (h1:∀ o,lo = some o→Reps w S φ [ρ o] [η o]) (h2:∀ o,hi = some o→Reps w S φ [ρ o] [η o]) (h3:∀ o,mx = some o→Reps w S φ [ρ o] [η o]) :
    Gives P w S φ (sliceV P t a (lo.map ρ) (hi.map ρ) (mx.map ρ)) (Instr.sliceAt t x (lo.map η) (hi.map η) (mx.map η)):=by
  unfold sliceV
  split
  · rename_i lo' hi' mx' hl hh hm
    have ol:=boundV_inv h1 hl
    have oh:=boundV_inv h2 hh
    have om:=boundV_inv h3 hm
    split
    · -- a string
      rename_i hu
      split
      · rename_i s
        obtain ⟨s,rfl,rfl⟩:=str_inv ha
        refine .asrt fun hc=>?_
        have es:s.data.toList.length = s.size:=by rw [Array.length_toList]; rfl
        obtain ⟨c1,c2,c3⟩:=hc
        have key:=sliceBounds_run (P:=P) (w:=w) (isSlice:=false) (len:=s.size) (cap:=s.size) ol oh om
          (l:=(lowOf lo').toNat) (h:=(highOf hi' (s.data.toList.length:Int)).toNat) (m:=s.size) (by omega)
          (by cases hi' with
              | none=>simp only [highOf] at c2 c3 ⊢; omega
              | some q=>obtain ⟨_,n⟩:=q; simp only [highOf] at c2 c3 ⊢; omega) (by simp [highOf]) (by omega) (by intro _; omega) (by omega) (by simp)
        have emx:mx.map η = none:=by cases hq:mx.map η with | none=>rfl | some v=>rw [hq] at om; exact om.elim
        refine .ret (z:=.string (s.extract (lowOf lo').toNat (highOf hi' (s.data.toList.length:Int)).toNat)) ?_ ?_
        · rw [emx] at key ⊢
          simp [Instr.sliceAt,Instr.slice,und_run hu,key]
        · have e : (s.extract (lowOf lo').toNat (highOf hi' (s.data.toList.length : Int)).toNat).data.toList =
              (s.data.toList.take (highOf hi' (s.data.toList.length:Int)).toNat).drop (lowOf lo').toNat:=by
            simp [ByteArray.data_extract,List.extract_eq_take_drop,List.drop_take]
          rw [← e]
          exact .str _ .nil
      · exact .fail _
    · -- a slice
      rename_i e hu
      split
      · exact .fail _
      · rename_i sz hsz
        have zero:∀ (b:Option Addr) (len cap:Nat),lo' = none→hi' = some (true,0)→mx' = some (true,0)→x = .slice b len cap→Gives P w S φ (.ret .nils) (Instr.sliceAt t x (lo.map η) (hi.map η) (mx.map η)):=by
          intro b len cap e1 e2 e3 ex
          subst e1 e2 e3 ex
          have key:=sliceBounds_run (P:=P) (w:=w) (isSlice:=true) (len:=len) (cap:=cap) ol oh om (l:=0) (h:=0) (m:=0) (by simp [lowOf]) (by simp [highOf]) (by simp [highOf]) (by omega) (by intro _; omega) (by omega) (by simp)
          refine .ret (sliceAt_run hu hsz key) ?_
          exact .nils _ .nil
        split
        · cases ha with
          | view0=>exact zero _ _ _ rfl rfl rfl rfl
          | view=>exact zero _ _ _ rfl rfl rfl rfl
        · cases ha with
          | own h =>
            obtain ⟨s,_,h2⟩:=h
            obtain ⟨a,l,c,rfl⟩:=Slot.fits_slice h2
            exact zero _ _ _ rfl rfl rfl rfl
        · cases ha with
          | slc h =>
            obtain ⟨s,B,c,_,_,h5⟩:=h
            rcases h5 with ⟨_,a,rfl⟩ | ⟨_,_,rfl⟩ <;> exact zero _ _ _ rfl rfl rfl rfl
        · cases ha with
          | lv0=>exact zero _ _ _ rfl rfl rfl rfl
          | lv=>exact zero _ _ _ rfl rfl rfl rfl
        · -- nils, no third bound
          cases ha with
          | nils b =>
            refine .need fun hc=>?_
            have key:=sliceBounds_run (P:=P) (w:=w) (isSlice:=true) (len:=0) (cap:=0) ol oh om (l:=0) (h:=0) (m:=0) (by omega)
              (by cases hi' with
                  | none=>simp [highOf]
                  | some q=>obtain ⟨_,n⟩:=q; have:=hc.2; simp only [lowOf,highOf] at this ⊢; omega) (by simp [highOf]) (by omega) (by intro _; omega) (by omega) (by simp)
            exact .ret (sliceAt_run hu hsz key) (.nils _ .nil)
        · cases ha with
          | nils b =>
            refine .need fun hc=>?_
            obtain ⟨c1,c2,c3⟩:=hc
            have key:=sliceBounds_run (P:=P) (w:=w) (isSlice:=true) (len:=0) (cap:=0) ol oh om (l:=0) (h:=0) (m:=0) (by omega) (by simp only [highOf]; omega) (by simp only [highOf]; omega) (by omega) (by intro _; omega) (by omega) (by simp)
            exact .ret (sliceAt_run hu hsz key) (.nils _ .nil)
        · -- a view, no third bound
          rename_i r xs
          split
          · rename_i hrs
            refine .asrt fun hc=>?_
            obtain ⟨c1,c2,c3⟩:=hc
            obtain ⟨b,len,cap,rfl,rfl,hcap,hv⟩:=view_part ha hrs (l:=(lowOf lo').toNat) (h:=(highOf hi' (xs.length:Int)).toNat) (by omega) (by omega)
            have key:=sliceBounds_run (P:=P) (w:=w) (isSlice:=true) (len:=xs.length) (cap:=cap) ol oh om
              (l:=(lowOf lo').toNat) (h:=(highOf hi' (xs.length:Int)).toNat) (m:=cap) (by omega)
              (by cases hi' with
                  | none=>simp only [highOf] at c2 c3 ⊢; omega
                  | some q=>obtain ⟨_,n⟩:=q; simp only [highOf] at c2 c3 ⊢; omega) (by simp [highOf]) (by omega) (by intro _; omega) (by omega) (by simp)
            exact .ret (sliceAt_run hu hsz key) (hv cap (by omega))
          · exact .fail _
        · -- a view, with a third bound that is its second one
          rename_i h m r xs
          split
          · rename_i hrs
            refine .asrt fun hc=>?_
            obtain ⟨c1,rfl,c3⟩:=hc
            obtain ⟨b,len,cap,rfl,rfl,hcap,hv⟩:=view_part ha hrs (l:=1) (h:=h.toNat) (by omega) (by omega)
            have key:=sliceBounds_run (P:=P) (w:=w) (isSlice:=true) (len:=xs.length) (cap:=cap) ol oh om
              (l:=1) (h:=h.toNat) (m:=h.toNat) (by simp [lowOf]) (by simp only [highOf]; omega) (by simp only [highOf]; omega) (by omega) (by intro _; omega) (by omega) (by simp)
            exact .ret (sliceAt_run hu hsz key) (fv_of_view (hv h.toNat (by omega)))
          · exact .fail _
        · -- a view, with a third bound
          rename_i h _ m r xs _ _
          split
          · rename_i hrs
            refine .asrt fun hc=>?_
            obtain ⟨c1,c2,c3,c4⟩:=hc
            obtain ⟨b,len,cap,rfl,rfl,hcap,hv⟩:=view_part ha hrs (l:=(lowOf lo').toNat) (h:=h.toNat) (by omega) (by omega)
            have key:=sliceBounds_run (P:=P) (w:=w) (isSlice:=true) (len:=xs.length) (cap:=cap) ol oh om
              (l:=(lowOf lo').toNat) (h:=h.toNat) (m:=m.toNat) (by omega) (by simp only [highOf]; omega) (by simp only [highOf]; omega) (by omega) (by intro _; omega) (by omega) (by simp)
            exact .ret (sliceAt_run hu hsz key) (hv m.toNat (by omega))
          · exact .fail _
        · -- a slice of cells of the call's own
          rename_i b off n sz'
          dsimp only
          split
          · rename_i hc
            obtain ⟨_,_,rfl,c1,c2,c3,c4⟩:=hc
            cases ha with
            | slc h =>
              obtain ⟨s,B,c,h5,h6,h7⟩:=h
              rcases h7 with ⟨rfl,a,rfl⟩ | ⟨h7,h8,rfl⟩
              · have key:=sliceBounds_run (P:=P) (w:=w) (isSlice:=true) (len:=0) (cap:=c) ol oh om (l:=0) (h:=0) (m:=c)
                  (by omega) (by cases hi' with
                      | none=>simp [highOf]
                      | some q=>obtain ⟨_,n⟩:=q; simp only [highOf] at c1 c2 c3 ⊢; omega) (by simp [highOf]) (by omega) (by intro _; omega) (by omega) (by simp)
                refine .ret (sliceAt_run hu hsz key) ?_
                have e0:((highOf hi' ((0:Nat):Int)) - lowOf lo').toNat = 0:=by omega
                rw [e0]
                exact .slc ⟨s,B,c - 0,h5,h6,.inl ⟨rfl,_,rfl⟩⟩ .nil
              · have key:=sliceBounds_run (P:=P) (w:=w) (isSlice:=true) (len:=n) (cap:=c) ol oh om (l:=(lowOf lo').toNat) (h:=(highOf hi' (n:Int)).toNat) (m:=c)
                  (by omega) (by cases hi' with
                      | none=>simp only [highOf] at c2 c3 ⊢; omega
                      | some q=>obtain ⟨_,n⟩:=q; simp only [highOf] at c1 c2 c3 ⊢; omega) (by simp [highOf]) (by omega) (by intro _; omega) (by omega) (by simp)
                refine .ret (sliceAt_run hu hsz key) ?_
                have e0:((highOf hi' (n:Int)) - lowOf lo').toNat = (highOf hi' (n:Int)).toNat - (lowOf lo').toNat:=by omega
                rw [e0]
                by_cases e:(highOf hi' (n:Int)).toNat - (lowOf lo').toNat = 0
                · rw [e]
                  exact .slc ⟨s,B,_,h5,h6,.inl ⟨rfl,_,rfl⟩⟩ .nil
                · have hm':c≠(lowOf lo').toNat:=by omega
                  rw [if_neg hm']
                  simp only [Option.map_some,Addr.add_plain]
                  refine .slc ⟨s,B,c - (lowOf lo').toNat,h5,h6,.inr ⟨by omega,fun e1 e2=>?_,rfl⟩⟩ .nil
                  rcases c4 with c4 | c4
                  · omega
                  · have hz:off = 0:=by omega
                    have hl0:(lowOf lo').toNat * sz' = 0:=by omega
                    rw [c4] at e2 ⊢
                    have:(lowOf lo').toNat = 0∨sz' = 0:=Nat.mul_eq_zero.1 hl0
                    rcases this with h9 | h9
                    · rw [h9] at e2 ⊢
                      have:=h8 hz (by simpa using e2)
                      simp [this]
                    · subst h9
                      have:=h8 hz (by simp at e2 ⊢; exact e2)
                      subst this
                      simp
          · exact .fail _
        · -- the whole of one's own
          cases ha with
          | own h =>
            have h0:=h
            obtain ⟨s,h5,h2⟩:=h
            obtain ⟨a,l,c,rfl⟩:=Slot.fits_slice h2
            have key:=sliceBounds_run (P:=P) (w:=w) (isSlice:=true) (len:=l) (cap:=c) ol oh om (l:=0) (h:=l) (m:=c) (by simp [lowOf]) (by simp [highOf]) (by simp [highOf]) (by omega) (by simp) (by omega) (by simp)
            refine .ret (sliceAt_run hu hsz key) ?_
            have e:(if c = 0 then a else a.map (·.add (0 * sz))) = a:=by
              split
              · rfl
              · cases a <;> simp [Addr.add]
            rw [e]
            exact .own (by simpa using h0) .nil
        · exact .fail _
    · -- an array
      rename_i n e hu
      split
      · rename_i sz b off hsz
        cases ha with
        | ptr h =>
          obtain ⟨s,B,h5,h6,rfl⟩:=h
          have key:=sliceBounds_run (P:=P) (w:=w) (isSlice:=false) (len:=n) (cap:=n) ol oh om (l:=0) (h:=n) (m:=n) (by simp [lowOf]) (by simp [highOf]) (by simp [highOf]) (by omega) (by simp) (by omega) (by simp)
          refine .ret (z:=.slice (some ⟨B,off,none⟩) n n) ?_ (.slc ⟨s,B,n,h5,h6,.inr ⟨by omega,by omega,rfl⟩⟩ .nil)
          simp [Instr.sliceAt,und_run hu,Instr.sureAddr,key,szOf_run hsz]
          intro _
          simp [Addr.add]
      · exact .fail _
    · exact .fail _
  · exact .fail _
theorem fill_one (v : List Value) : ∀ (off : Nat) (cells : Array Value) (k : Nat), off + k + v.length ≤ cells.size →
    ((v.zipIdx k).foldl (fun cs (p:Value × Nat)=>cs.setIfInBounds (off + p.2) p.1) cells).toList = cells.toList.take (off + k) ++ v ++ cells.toList.drop (off + k + v.length):=by
  induction v with
  | nil=>intro off cells k h; simp
  | cons x v ih =>
    intro off cells k h
    simp only [List.zipIdx_cons,List.foldl_cons,List.length_cons] at h ⊢
    rw [ih off _ (k + 1) (by simp; omega)]
    have hlt:off + k < cells.toList.length:=by simp; omega
    have e:=list_seg_step cells.toList (off + k) x v (by simp; omega)
    rw [Array.toList_setIfInBounds]
    simpa [Nat.add_assoc,Nat.add_comm,Nat.add_left_comm] using e
theorem fill_one' (v : Array Value) (off : Nat) (cells : Array Value) (h : off + v.size ≤ cells.size) :
    (v.zipIdx.foldl (fun cs (p:Value × Nat)=>cs.setIfInBounds (off + p.2) p.1) cells).toList = cells.toList.take off ++ v.toList ++ cells.toList.drop (off + v.size):=by
  have:=fill_one v.toList off cells 0 (by simpa using h)
  rw [← Array.foldl_toList,Array.toList_zipIdx]
  simpa using this
theorem overlay_reps {cs vs:List AV} {us xs:List Value} (h:Reps w S φ cs us) (h':Reps w S φ vs xs) (off:Nat):Reps w S φ (overlay cs off vs) (us.take off ++ xs ++ us.drop (off + xs.length)):=by
  unfold overlay
  rw [h'.len]
  exact ((h.take off).app h').app (h.drop _)
def PartsRep (w:World) (S:Nat→Prop) (φ:Env):List (Nat × AV)→List (Nat × Value)→Prop
  | [],[]=>True
  | (i,a) :: l,(j,v) :: m=>i = j∧Reps w S φ [a] [v]∧PartsRep w S φ l m
  | _,_=>False
theorem fill_run {place : Nat → Option (Nat × Nat)} : ∀ {parts : List (Nat × AV)} {vparts : List (Nat × Value)} {cs cs' : List AV} {us : Array Value}, PartsRep w S φ parts vparts → plainParts parts = true →
    Reps w S φ cs us.toList→fillV place cs parts = some cs'→∃ us',Instr.fill place us vparts = some us'∧Reps w S φ cs' us'.toList∧us'.size = us.size
  | [],[],cs,cs',us,_,_,hr,h=>by
    cases h
    exact ⟨us,rfl,hr,rfl⟩
  | (i,a) :: parts,(j,v) :: vparts,cs,cs',us,hp,hpl,hr,h=>by
    obtain ⟨rfl,ha,hp⟩:=hp
    have hpl':plainParts parts = true∧a≠.any:=by
      cases a <;> simp_all [plainParts]
    unfold fillV at h
    cases hpi:place i with
    | none=>simp [hpi] at h
    | some q =>
      obtain ⟨off,size⟩:=q
      simp only [hpi] at h
      split at h
      · rename_i hc
        have hcr:=cells_reps ha hpl'.2
        have hsz:v.cells.size = size:=by have:=hcr.len; simp at this; omega
        have hlen:=hr.len
        have hfit:off + v.cells.size≤us.size:=by simp at hlen; omega
        have e:=fill_one' v.cells off us hfit
        have hr':=overlay_reps hr hcr off
        rw [show v.cells.toList.length = v.cells.size by simp,← e] at hr'
        obtain ⟨us',h1,h2,h3⟩:=fill_run hp hpl'.1 hr' h
        refine ⟨us',?_,h2,?_⟩
        · have c1:¬ (v.cells.size≠size):=by omega
          have c2:¬ (off + v.cells.size > us.size):=by omega
          rw [Instr.fill,hpi]
          simp only [decide_eq_false c1,decide_eq_false c2,Bool.or_self,Bool.false_eq_true,if_false]
          exact h1
        · rw [h3,← Array.length_toList,e]
          simp
          omega
      · cases h
theorem partsRep_of {ρ:Operand→AV} {η:Operand→Value}:∀ {l:List (Nat × Operand)},(∀ p ∈ l,Reps w S φ [ρ p.2] [η p.2])→PartsRep w S φ (l.map fun (i,x)=>(i,ρ x)) (l.map fun (i,x)=>(i,η x))
  | [],_=>trivial
  | (i,x) :: l,h=>⟨rfl,h (i,x) (by simp),partsRep_of fun p hp=>h p (by simp [hp])⟩
theorem buildV_gives {t : TypeId} {ρ : Operand → AV} {η : Operand → Value} {parts : Array (Nat × Operand)} (h : ∀ p ∈ parts.toList, Reps w S φ [ρ p.2] [η p.2]) :
    Gives P w S φ (buildV P t (parts.toList.map fun (i,x)=>(i,ρ x))) (Instr.build t (parts.map fun (i,x)=>(i,η x))):=by
  have hp:=partsRep_of h
  have ep:(parts.map fun (i,x)=>(i,η x)).toList = parts.toList.map fun (i,x)=>(i,η x):=by simp
  unfold buildV
  split
  · rename_i hpl
    split
    · exact .fail _
    · rename_i it hit
      split
      · exact .fail _
      · rename_i z hz
        split
        · rename_i fs hu
          split
          · rename_i places hpla
            split
            · rename_i cs hcs
              have hzr:Reps w S φ (ofValue z).cells z.cells.toList:=by
                unfold ofValue
                split
                · simpa [AV.cells,Value.cells] using ofCells_reps _
                · rename_i hna
                  by_cases ha:ofCell z = .any
                  · rw [ha]
                    cases z <;> first | exact .any _ .nil | (exact absurd rfl (hna _))
                  · exact cells_reps (ofCell_reps z) ha
              obtain ⟨us',h1,h2,_⟩:=fill_run hp hpl hzr hcs
              refine .ret (z:=.agg us') (run_build w t _ us' ?_) ?_
              · unfold Program.built
                unfold placesOf at hpla
                simp only [hit,hu,hz,hpla,ep]
                simpa using h1
              · have:=Reps.agg h2 (.nil (w:=w) (S:=S) (φ:=φ))
                simpa using this
            · exact .fail _
          · exact .fail _
        · rename_i n e hu
          split
          · rename_i sz hsz
            split
            · rename_i cs hcs
              have hzr:Reps w S φ (ofValue z).cells z.cells.toList:=by
                unfold ofValue
                split
                · simpa [AV.cells,Value.cells] using ofCells_reps _
                · rename_i hna
                  by_cases ha:ofCell z = .any
                  · rw [ha]
                    cases z <;> first | exact .any _ .nil | (exact absurd rfl (hna _))
                  · exact cells_reps (ofCell_reps z) ha
              obtain ⟨us',h1,h2,_⟩:=fill_run hp hpl hzr hcs
              obtain ⟨ie,hie,rfl⟩:=szOf_info hsz
              refine .ret (z:=.agg us') (run_build w t _ us' ?_) ?_
              · unfold Program.built
                simp only [hit,hu,hz,hie,ep]
                simpa using h1
              · have:=Reps.agg h2 (.nil (w:=w) (S:=S) (φ:=φ))
                simpa using this
            · exact .fail _
          · exact .fail _
        · exact .fail _
  · exact .fail _
theorem castL_inv:∀ {r r':RTy} {xs:List r'.carrier} {ys:List r.carrier},castL r r' xs = some ys→∃ h:r' = r,ys = h ▸ xs:=by
  intro r r' xs ys h
  unfold castL at h
  split at h <;> first
    | (cases h; exact ⟨rfl,rfl⟩)
    | (split at h
       · rename_i hk; subst hk; cases h; exact ⟨rfl,rfl⟩
       · cases h)
    | (cases h)
theorem ints_cells {k:IntKind}:∀ {xs:List Int} {us:List Value},Reps w S φ (xs.flatMap (RTy.enc (.int k))) us→us = xs.map (Value.int k)
  | [],us,h=>by cases h.nil_inv; rfl
  | x :: xs,us,h=>by
    simp only [List.flatMap_cons,RTy.enc,List.singleton_append] at h
    obtain ⟨v,us,rfl,h1,h2⟩:=h.uncons
    cases h1
    rw [ints_cells h2]
    rfl
theorem strOf_nums (xs:List Int):(xs.foldl (fun r n=>r.push (UInt8.ofNat n.toNat)) ByteArray.empty).data.toList = xs.map fun n=>UInt8.ofNat n.toNat:=by
  have key:∀ (xs:List Int) (s:ByteArray),(xs.foldl (fun r n=>r.push (UInt8.ofNat n.toNat)) s).data.toList = s.data.toList ++ xs.map fun n=>UInt8.ofNat n.toNat:=by
    intro xs
    induction xs with
    | nil=>intro s; simp
    | cons x xs ih=>intro s; simp [ih]
  rw [key]
  rfl
theorem bytesOf_gives {look : Nat → Option Blk} (HL : HeapRep w S φ look) {a : AV} {x : Value} {xs : List Int} (h : bytesOf look a = some xs) (ha : Reps w S φ [a] [x]) :
    ∃ b len cap,x = .slice b len cap∧∃ s,(Conv.bytesToString x).run P w = .ok (.string s) w∧s.data.toList = xs.map fun n=>UInt8.ofNat n.toNat:=by
  have some_case : ∀ (B o len cap : Nat) (us : List Value) (n : Nat), us = xs.map (Value.int .u8) → len = us.length → cellsAt w B o us →
      ∃ s,(Conv.bytesToString (.slice (some ⟨B,o,none⟩) len cap)).run P w = .ok (.string s) w∧s.data.toList = xs.map fun n=>UInt8.ofNat n.toNat:=by
    intro B o len cap us _ e el hc
    refine ⟨_,run_bytesToString w _ len cap xs ?_,strOf_nums xs⟩
    have hl:=run_loadCells_list (P:=P) w ⟨B,o,none⟩ us (fun j u hj=>by rw [Addr.add_plain]; exact hc j u hj)
    rw [el,← e]
    exact hl
  have none_case:∀ (b:Option Addr) (cap:Nat),xs = []→∃ s,(Conv.bytesToString (.slice b 0 cap)).run P w = .ok (.string s) w∧s.data.toList = xs.map fun n=>UInt8.ofNat n.toNat:=by
    intro b cap e
    subst e
    cases b with
    | none=>exact ⟨.empty,by simp [Conv.bytesToString],rfl⟩
    | some b =>
      refine ⟨_,run_bytesToString w b 0 cap [] (by simp [loadCells,loadCellsFrom]),rfl⟩
  unfold bytesOf at h
  split at h <;> try (cases h; done)
  · cases h
    cases ha with
    | view0 _ _ hx=>exact ⟨_,_,_,rfl,none_case _ _ hx⟩
    | view _ _ c hc0 hs hc hr =>
      have e:=ints_cells hr
      exact ⟨_,_,_,rfl,some_case _ _ _ _ _ 0 e (by rw [e]; simp) hc⟩
  · cases h
    cases ha
    exact ⟨_,_,_,rfl,none_case _ _ rfl⟩
  · split at h <;> try (cases h; done)
    rename_i e' xs' hl
    cases h
    cases ha with
    | own h =>
      obtain ⟨sl,h1,hv⟩:=h
      obtain ⟨B',cap,len,h3,rfl,us,h4,h5,h6⟩:=HL _ _ hl
      rw [h1] at h3
      cases h3
      have e:=ints_cells h5
      cases B' with
      | none =>
        obtain ⟨a0,rfl⟩:∃ a,x = .slice a 0 0:=hv
        have:xs = []:=by
          obtain ⟨_,h7⟩:=h4
          rcases h7 with ⟨_,h7⟩ | ⟨g,c,cur,hv,_⟩
          · exact List.eq_nil_of_length_eq_zero h7
          · simp [baseOf] at hv
        subst this
        exact ⟨_,_,_,rfl,none_case _ _ rfl⟩
      | some B =>
        simp only [Slot.fits] at hv
        subst hv
        exact ⟨_,_,_,rfl,some_case _ _ _ _ _ 0 e (by rw [e]; simp) (ownsRow_cells h4)⟩
theorem convertV_gives {look:Nat→Option Blk} (HL:HeapRep w S φ look) {src dst:TypeId} {a:AV} {x:Value} (ha:Reps w S φ [a] [x]):Gives P w S φ (convertV P look src dst a) (Go.convert src dst x):=by
  unfold convertV
  split
  · rename_i d k l k' n hs hd hn
    cases num_inv hn ha
    refine .ret (z:=.int k (k.wrap n)) ?_ (mkInt_rep _ _ _)
    simp [Go.convert,und_run hs,und_run hd,Conv.intToInt]
  · rename_i e hs hd hn
    split
    · rename_i he
      split
      · rename_i xs hxs
        obtain ⟨b,len,cap,rfl,s,hr,e⟩:=bytesOf_gives (P:=P) HL hxs ha
        refine .ret (z:=.string s) ?_ (by rw [← e]; exact .str _ .nil)
        rw [run_convert_bytes_string w src dst _ b len cap hs he hd,hr]
      · exact .fail _
    · exact .fail _
  · rename_i hs hd hn
    split
    · obtain ⟨s,rfl,rfl⟩:=str_inv ha
      exact .ret (by simp [Go.convert,und_run hs,und_run hd]) (.str _ .nil)
    · exact .fail _
  · exact .fail _
theorem lenV_gives {look : Nat → Option Blk} (HL : HeapRep w S φ look) {t : TypeId} {a : AV} {x : Value} (ha : Reps w S φ [a] [x]) (ts : Array TypeId) (ty : TypeId) (ht : ts[0]? = some t) (xs : Array Value) (hx : xs[0]? = some x) :
    Gives P w S φ (lenV P look t a) (Builtin.len_ ts ty xs):=by
  have sl:∀ (e:TypeId) (b:Option Addr) (len cap:Nat),P.underlying t = some (.slice e)→x = .slice b len cap→(Builtin.len_ ts ty xs).run P w = .ok (.int .i64 len) w:=by
    intro e b len cap hu e
    subst e
    simp [Builtin.len_,ht,hx,und_run hu,goInt]
  unfold lenV
  split
  · rename_i hu
    split
    · obtain ⟨s,rfl,rfl⟩:=str_inv ha
      refine .ret (z:=.int .i64 s.size) (by simp [Builtin.len_,ht,hx,und_run hu,goInt]) ?_
      have:s.data.toList.length = s.size:=by rw [Array.length_toList]; rfl
      rw [this]
      exact .int _ _ .nil
    · exact .fail _
  · rename_i n e hu
    exact .ret (z:=.int .i64 n) (by simp [Builtin.len_,ht,hx,und_run hu,goInt]) (.lit _ _ .nil)
  · rename_i e hu
    split
    · cases ha with
      | view0 _ _ hx'=>subst hx'; exact .ret (sl e _ _ _ hu rfl) (.int _ _ .nil)
      | view=>exact .ret (sl e _ _ _ hu rfl) (.int _ _ .nil)
    · cases ha; exact .ret (sl e _ _ _ hu rfl) (.lit _ _ .nil)
    · cases ha with
      | slc h =>
        obtain ⟨s,B,c,_,_,h3⟩:=h
        rcases h3 with ⟨rfl,a,rfl⟩ | ⟨_,_,rfl⟩
        · exact .ret (sl e _ _ _ hu rfl) (.lit _ _ .nil)
        · exact .ret (sl e _ _ _ hu rfl) (.lit _ _ .nil)
    · cases ha with
      | lv0=>exact .ret (sl e _ _ _ hu rfl) (.lit _ _ .nil)
      | lv=>exact .ret (sl e _ _ _ hu rfl) (.lit _ _ .nil)
    · split
      · rename_i hl
        cases ha with
        | own h =>
          obtain ⟨s,h1,hv⟩:=h
          obtain ⟨B',cap,len,h3,rfl,us,h4,_⟩:=HL _ _ hl
          rw [h1] at h3
          cases h3
          cases B' with
          | none =>
            obtain ⟨a0,rfl⟩:∃ a,x = .slice a 0 0:=hv
            obtain ⟨_,h7⟩:=h4
            rcases h7 with ⟨_,h7⟩ | ⟨g,c,cur,hv,_⟩
            · rw [h7]
              exact .ret (sl e _ _ _ hu rfl) (.int _ _ .nil)
            · simp [baseOf] at hv
          | some B =>
            simp only [Slot.fits] at hv
            subst hv
            exact .ret (sl e _ _ _ hu rfl) (.int _ _ .nil)
      · exact .fail _
    · exact .fail _
  · rename_i kt e hu
    split
    · cases ha
      exact .ret (z:=.int .i64 0) (by simp [Builtin.len_,ht,hx,und_run hu,goInt]) (.lit _ _ .nil)
    · split
      · rename_i r es hl
        cases ha with
        | map h =>
          obtain ⟨s,B,h1,h2,rfl⟩:=h
          obtain ⟨B',cap,len,h3,B'',ms,clock,rfl,h4,h5⟩:=HL _ _ hl
          rw [h1] at h3
          cases h3
          cases h2
          have hlen:∀ {es:List (Int × r.carrier)} {ms:List MapEntry},IMapRep w S φ r es ms→es.length = ms.length:=by
            intro es
            induction es with
            | nil=>intro ms h; cases ms with | nil=>rfl | cons m ms=>exact h.elim
            | cons p es ih =>
              intro ms h
              cases ms with
              | nil=>exact h.elim
              | cons m ms=>obtain ⟨k,x⟩:=p; simp [ih h.2.2]
          refine .ret (z:=.int .i64 ms.size) ?_ ?_
          · simp [Builtin.len_,ht,hx,und_run hu,goInt,getObj,Sem.run,h4]
          · rw [hlen h5]
            simp
            exact .int _ _ .nil
      · exact .fail _
    · exact .fail _
  · exact .fail _
theorem foldNum_gives {f : Int → Int → Int} {g : Value → Value → Sem Value} (hg : ∀ k x y, g (.int k x) (.int k y) = pure (.int k (f x y))) : ∀ {as : List AV} {a : AV} {x : Value} {vs : List Value},
    Reps w S φ [a] [x]→Reps w S φ as vs→Gives P w S φ (foldNum f a as) (vs.foldlM g x)
  | [],a,x,vs,ha,h=>by
    cases h.nil_inv
    exact .ret (by simp) ha
  | b :: as,a,x,vs,ha,h=>by
    obtain ⟨v,vs,rfl,h1,h2⟩:=h.uncons
    unfold foldNum
    split
    · rename_i la k m lb k' n hm hn
      cases num_inv hm ha
      cases num_inv hn h1
      split
      · rename_i hk
        subst hk
        refine (foldNum_gives hg (mkInt_rep _ _ _) h2).congr ?_
        simp [hg]
      · exact .fail _
    · exact .fail _
theorem typeAssertV_gives {a:AV} {x:Value} (ha:Reps w S φ [a] [x]) (xt t:TypeId) (ok:Bool):Gives P w S φ (typeAssertV P a t ok) (Instr.typeAssert x xt t ok):=by
  unfold typeAssertV
  split
  · exact .fail _
  · exact .fail _
  · rename_i d hni hu
    have hd:∀ ms,d≠.interface ms:=fun ms e=>hni ms (by rw [e])
    split
    · rename_i t' v
      cases ha with
      | iface _ h =>
        rename_i xv _
        split
        · rename_i ht
          subst ht
          refine .ret (z:=if ok then .tuple #[xv,.bool true] else xv) ?_ ?_
          · cases d <;> first | (exact absurd rfl (hd _)) | (cases ok <;> simp [Instr.typeAssert,und_run hu])
          · cases ok
            · simpa using h
            · simpa using Reps.tup (us:=[_,.bool true]) (h.cons (.blit _ .nil)) (.nil (w:=w) (S:=S) (φ:=φ))
        · rename_i ht
          split
          · rename_i z hz
            obtain ⟨i,zv,_,_,rfl,hzr⟩:=zeroAV_run (w:=w) hz
            refine .ret (z:=.tuple #[zv,.bool false]) ?_ ?_
            · cases d <;> first | (exact absurd rfl (hd _)) | simp [Instr.typeAssert,und_run hu,ht,hzr]
            · simpa using Reps.tup (us:=[_,.bool false]) ((ofValue_reps zv).cons (.blit _ .nil)) (.nil (w:=w) (S:=S) (φ:=φ))
          · exact .fail _
    · cases ha
      split
      · rename_i z hz
        obtain ⟨i,zv,_,_,rfl,hzr⟩:=zeroAV_run (w:=w) hz
        refine .ret (z:=.tuple #[zv,.bool false]) ?_ ?_
        · cases d <;> first | (exact absurd rfl (hd _)) | simp [Instr.typeAssert,und_run hu,hzr]
        · simpa using Reps.tup (us:=[_,.bool false]) ((ofValue_reps zv).cons (.blit _ .nil)) (.nil (w:=w) (S:=S) (φ:=φ))
      · exact .fail _
    · exact .fail _
theorem lget_inv : ∀ {es : List (AV × AV)} {ms : List MapEntry} {k : Int} {r : Option AV} (i : Nat), lget es k = some r → LMapRep w S φ es ms →
    (∃ q,Instr.findNow (.int .i64) (.int .i64 k) ms i = some q∧(match r,q with | none,none=>True | some a,some (_,v)=>Reps w S φ [a] [v] | _,_=>False))
  | [],[],k,r,i,h,_=>by cases h; exact ⟨none,rfl,trivial⟩
  | (a,x) :: es,m :: ms,k,r,i,h,⟨⟨j,e1,e2⟩,h2,h3⟩=>by
    subst e1
    unfold lget at h
    split at h
    · rename_i hj
      cases h
      subst hj
      exact ⟨some (i,m.val),by simp [Instr.findNow,Instr.sameNow,e2],h2⟩
    · rename_i hj
      obtain ⟨q,h4,h5⟩:=lget_inv (i + 1) h h3
      refine ⟨q,?_,h5⟩
      have:(k == j) = false:=by simpa using fun e=>hj e.symm
      simp [Instr.findNow,Instr.sameNow,e2,this,h4]
theorem mget_inv {r : RTy} : ∀ {es : List (Int × r.carrier)} {ms : List MapEntry} {k : Int} (i : Nat), IMapRep w S φ r es ms →
    (∃ q,Instr.findNow (.int .i64) (.int .i64 k) ms i = some q∧(match mget es k,q with | none,none=>True | some x,some (_,v)=>ValRep w S φ r x v | _,_=>False))
  | [],[],k,i,_=>⟨none,rfl,trivial⟩
  | (j,x) :: es,m :: ms,k,i,⟨e2,h2,h3⟩=>by
    unfold mget
    by_cases hj:j = k
    · subst hj
      exact ⟨some (i,m.val),by simp [Instr.findNow,Instr.sameNow,e2],by simpa using h2⟩
    · obtain ⟨q,h4,h5⟩:=mget_inv (k:=k) (i + 1) h3
      refine ⟨q,?_,by simpa [hj] using h5⟩
      have:(k == j) = false:=by simpa using fun e=>hj e.symm
      simp [Instr.findNow,Instr.sameNow,e2,this,h4]
theorem isAgg_enc {r:RTy} (h:r.isAgg = false) (x:r.carrier):∃ c,r.enc x = [c]:=by
  cases r <;> first | (cases h; done) | exact ⟨_,rfl⟩
theorem checkKey_run (P:Program) (w:World) {kt:TypeId} (hk:P.underlying kt = some (.int .i64)) (b:Bool) (n:Nat) (k:Int):(Instr.checkKey b (n + 1) kt (.int .i64 k)).run P w = .ok () w:=by
  simp [Instr.checkKey,und_run hk]
theorem i_reps {k:IntKind} {a:AV} {n:Int} {as bs:List AV} {us:List Value} (h:a.asIntK k = some n) (hr:Reps w S φ (a :: as) us) (rest:∀ us',Reps w S φ as us'→Reps w S φ bs us'):Reps w S φ (.int k n :: bs) us:=by
  obtain ⟨v,us,rfl,h1,h2⟩:=hr.uncons
  rw [asIntK_inv h h1]
  exact .int _ _ (rest _ h2)
theorem b_reps {a:AV} {n:Bool} {as bs:List AV} {us:List Value} (h:a.b = some n) (hr:Reps w S φ (a :: as) us) (rest:∀ us',Reps w S φ as us'→Reps w S φ bs us'):Reps w S φ (.bool n :: bs) us:=by
  obtain ⟨v,us,rfl,h1,h2⟩:=hr.uncons
  unfold AV.b at h
  split at h <;> cases h
  · cases h1; exact .bool _ (rest _ h2)
  · cases h1; exact .bool _ (rest _ h2)
theorem s_reps {a:AV} {n:List UInt8} {as bs:List AV} {us:List Value} (h:a.s = some n) (hr:Reps w S φ (a :: as) us) (rest:∀ us',Reps w S φ as us'→Reps w S φ bs us'):Reps w S φ (.str n :: bs) us:=by
  obtain ⟨v,us,rfl,h1,h2⟩:=hr.uncons
  unfold AV.s at h
  split at h <;> cases h
  exact h1.cons (rest _ h2)
theorem decSpec_reps {l:List AV} {x:Fu.Spec} {us:List Value} (h:decSpec l = some x) (hr:Reps w S φ l us):Reps w S φ (encSpec x) us:=by
  unfold decSpec at h
  split at h
  · split at h
    · rename_i h1 h2 h3 h4 h5 h6
      cases h
      exact i_reps h1 hr fun _ hr=>i_reps h2 hr fun _ hr=>i_reps h3 hr fun _ hr=>i_reps h4 hr fun _ hr=>i_reps h5 hr fun _ hr=>i_reps h6 hr fun _ hr=>hr
    · cases h
  · cases h
theorem decJob_reps {l:List AV} {x:Fu.Job} {us:List Value} (h:decJob l = some x) (hr:Reps w S φ l us):Reps w S φ (encJob x) us:=by
  unfold decJob at h
  split at h
  · split at h
    · rename_i h1 h2 h3 h4 h5 h6 h7 h8
      cases h
      exact b_reps h1 hr fun _ hr=>i_reps h2 hr fun _ hr=>i_reps h3 hr fun _ hr=>i_reps h4 hr fun _ hr=>b_reps h5 hr fun _ hr=>i_reps h6 hr fun _ hr=>i_reps h7 hr fun _ hr=>i_reps h8 hr fun _ hr=>hr
    · cases h
  · cases h
theorem reps_parts {l : List AV} {us : List Value} (n m : Nat) (hr : Reps w S φ l us) : Reps w S φ (l.take n) (us.take n) ∧ Reps w S φ ((l.drop n).take m) ((us.drop n).take m) ∧ Reps w S φ (l.drop (n + m)) (us.drop (n + m)) ∧
    us = us.take n ++ ((us.drop n).take m ++ us.drop (n + m)):=by
  refine ⟨hr.take n,(hr.drop n).take m,hr.drop _,?_⟩
  have:us.drop (n + m) = (us.drop n).drop m:=by rw [List.drop_drop]
  rw [this,List.take_append_drop,List.take_append_drop]
theorem cv_reps {k:IntKind} {a:AV} {xs:List Int} {us:List Value} (h:castView (.int k) a = some xs) (hr:Reps w S φ [a] us):Reps w S φ [.view (.int k) xs] us:=by
  unfold castView at h
  split at h
  · obtain ⟨e,rfl⟩:=castL_inv h
    rename_i r' xs
    subst e
    exact hr
  · cases h
    obtain ⟨v,rfl,h1⟩:=hr.one_inv
    cases h1
    exact .view0 _ _ rfl _ _ .nil
  · cases h
theorem dec_reps:∀ {r:RTy} {l:List AV} {x:r.carrier} {us:List Value},r.dec l = some x→Reps w S φ l us→Reps w S φ (r.enc x) us:=by
  intro r
  cases r with
  | int k =>
    intro l x us h hr
    simp only [RTy.dec] at h
    split at h
    · exact i_reps h hr fun _ hr=>hr
    · cases h
  | bool =>
    intro l x us h hr
    simp only [RTy.dec] at h
    split at h
    · exact b_reps h hr fun _ hr=>hr
    · cases h
  | str =>
    intro l x us h hr
    simp only [RTy.dec] at h
    split at h
    · exact s_reps h hr fun _ hr=>hr
    · cases h
  | ints k =>
    intro l x us h hr
    simp only [RTy.dec] at h
    split at h
    · rename_i a
      unfold castView at h
      split at h
      · obtain ⟨e,rfl⟩:=castL_inv h
        rename_i r' xs
        subst e
        exact hr
      · cases h
        obtain ⟨v,rfl,h1⟩:=hr.one_inv
        cases h1
        exact .view0 _ _ rfl _ _ .nil
      · cases h
    · cases h
  | spec=>intro l x us h hr; exact decSpec_reps h hr
  | spr =>
    intro l x us h hr
    simp only [RTy.dec] at h
    unfold decSpr at h
    split at h
    · split at h
      · rename_i h1 h2 h3
        cases h
        exact i_reps h1 hr fun _ hr=>i_reps h2 hr fun _ hr=>i_reps h3 hr fun _ hr=>hr
      · cases h
    · cases h
  | fix =>
    intro l x us h hr
    simp only [RTy.dec] at h
    unfold decFix at h
    split at h
    · rename_i s a hs ha
      split at h
      · rename_i n hn
        cases h
        have h1:=decSpec_reps hs (hr.take 6)
        have h2:Reps w S φ [.int .i64 n] (us.drop 6):=by
          have:=hr.drop 6
          rw [ha] at this
          exact i_reps hn this fun _ hr=>hr
        have:=h1.app h2
        rwa [List.take_append_drop] at this
      · cases h
    · cases h
  | item =>
    intro l x us h hr
    simp only [RTy.dec] at h
    unfold decItem at h
    split at h
    · split at h
      · rename_i h1 h2
        cases h
        exact i_reps h1 hr fun _ hr=>i_reps h2 hr fun _ hr=>hr
      · cases h
    · cases h
  | live =>
    intro l x us h hr
    simp only [RTy.dec] at h
    unfold decLive at h
    obtain ⟨p1,p2,p3,p4⟩:=reps_parts 6 8 hr
    split at h
    · rename_i s j a b c hs hj ha
      split at h
      · rename_i h1 h2 h3
        cases h
        rw [ha] at p3
        have q3:=i_reps h1 p3 fun _ hr=>i_reps h2 hr fun _ hr=>i_reps h3 hr fun _ hr=>hr
        have:=(decSpec_reps hs p1).app ((decJob_reps hj p2).app q3)
        rw [← p4] at this
        simpa [RTy.enc,encLive] using this
      · cases h
    · cases h
  | ape =>
    intro l x us h hr
    simp only [RTy.dec] at h
    unfold decApe at h
    split at h
    · split at h
      · rename_i h1 h2 h3 h4 h5
        cases h
        exact i_reps h1 hr fun _ hr=>i_reps h2 hr fun _ hr=>i_reps h3 hr fun _ hr=>i_reps h4 hr fun _ hr=>i_reps h5 hr fun _ hr=>hr
      · cases h
    · cases h
  | opt =>
    intro l x us h hr
    simp only [RTy.dec] at h
    unfold decOpt at h
    split at h
    · split at h
      · rename_i h1 h2 h3
        cases h
        exact i_reps h1 hr fun _ hr=>i_reps h2 hr fun _ hr=>i_reps h3 hr fun _ hr=>hr
      · cases h
    · cases h
  | task =>
    intro l x us h hr
    simp only [RTy.dec] at h
    unfold decTask at h
    obtain ⟨p1,p2,p3,p4⟩:=reps_parts 1 6 hr
    obtain ⟨q1,q2,q3,q4⟩:=reps_parts 4 8 p3
    obtain ⟨o1,o2,o3,o4⟩:=reps_parts 0 2 q3
    simp only [List.drop_drop,Nat.zero_add,List.take_zero,List.nil_append] at q1 q2 q3 o2 o3 o4 q4
    split at h
    · rename_i a s b c d e j hh k ha hs hb hj hr' hk
      split at h
      · rename_i h1 h2 h3 h4 h5 h6
        cases h
        rw [ha] at p1
        rw [hb] at q1
        rw [hk] at o3
        have z1:=i_reps h1 p1 fun _ hr=>hr
        have z2:=decSpec_reps hs p2
        have z3:=i_reps h2 q1 fun _ hr=>i_reps h3 hr fun _ hr=>i_reps h4 hr fun _ hr=>i_reps h5 hr fun _ hr=>hr
        have z4:=decJob_reps hj q2
        have z5:Reps w S φ (encRing hh) ((us.drop 19).take 2):=by
          unfold decRing at hr'
          split at hr'
          · rename_i a1 b1 e1
            split at hr'
            · rename_i g1 g2
              cases hr'
              rw [e1] at o2
              exact i_reps g1 o2 fun _ hr=>i_reps g2 hr fun _ hr=>hr
            · cases hr'
          · cases hr'
        have z6:=b_reps h6 o3 fun _ hr=>hr
        have:=z1.app (z2.app (z3.app (z4.app (z5.app z6))))
        rw [← o4,← q4,← p4] at this
        simpa [RTy.enc,encTask] using this
      · cases h
    · cases h
  | aim =>
    intro l x us h hr
    simp only [RTy.dec] at h
    unfold decAim at h
    obtain ⟨p1,p2,p3,p4⟩:=reps_parts 1 6 hr
    split at h
    · rename_i a s b ha hs hb
      split at h
      · rename_i h1 h2
        cases h
        rw [ha] at p1
        rw [hb] at p3
        have:=(i_reps h1 p1 fun _ hr=>hr).app ((decSpec_reps hs p2).app (i_reps h2 p3 fun _ hr=>hr))
        rw [← p4] at this
        simpa [RTy.enc,encAim] using this
      · cases h
    · cases h
  | op =>
    intro l x us h hr
    simp only [RTy.dec] at h
    unfold decOp at h
    obtain ⟨p1,p2,p3,p4⟩:=reps_parts 2 6 hr
    split at h
    · rename_i a b s c d e f g h' ha hs hb
      split at h
      · rename_i h1 h2 h3 h4 h5 h6 h7 h8
        cases h
        rw [ha] at p1
        rw [hb] at p3
        have:=(i_reps h1 p1 fun _ hr=>i_reps h2 hr fun _ hr=>hr).app ((decSpec_reps hs p2).app (i_reps h3 p3 fun _ hr=>i_reps h4 hr fun _ hr=>i_reps h5 hr fun _ hr=>i_reps h6 hr fun _ hr=>i_reps h7 hr fun _ hr=>cv_reps h8 hr))
        rw [← p4] at this
        simpa [RTy.enc,encOp] using this
      · cases h
    · cases h
theorem decRows_reps {r:RTy}:∀ {n:Nat} {l:List AV} {xs:List r.carrier} {us:List Value},decRows r n l = some xs→Reps w S φ l us→xs.length = n∧Reps w S φ (xs.flatMap r.enc) us
  | 0,l,xs,us,h,hr=>by
    unfold decRows at h
    split at h
    · cases h; exact ⟨rfl,hr⟩
    · cases h
  | n + 1,l,xs,us,h,hr=>by
    unfold decRows at h
    split at h
    · rename_i x ys hx hys
      cases h
      obtain ⟨h1,h2⟩:=decRows_reps hys (hr.drop r.size)
      refine ⟨by simp [h1],?_⟩
      have:=(dec_reps hx (hr.take r.size)).app h2
      rw [List.take_append_drop] at this
      simpa [List.flatMap_cons] using this
    · cases h
end
end Go.Fx
namespace Go.Fx
open Go Go.RowKit
structure Ext (w:World) (φ:Env) (base n:Nat) (w':World) (φ':Env):Prop where
  below:Below w.heap.size w w'
  same:∀ id,¬ (base≤id∧id < base + n)→φ' id = φ id
  new:∀ id s,base≤id→id < base + n→φ' id = some s→∀ B,s.blk = some B→w.heap.size≤B∧B < w'.heap.size
  inj:∀ id id' s s' B,base≤id→id < base + n→base≤id'→id' < base + n→φ' id = some s→φ' id' = some s'→s.blk = some B→s'.blk = some B→s.alive = true→s'.alive = true→id = id'
structure ResPost (w:World) (S:Nat→Prop) (φ:Env) (base:Nat) (v:AV) (bs:List Blk) (x:Value) (w':World) (φ':Env):Prop where
  ext:Ext w φ base bs.length w' φ'
  val:Reps w' S φ' [v] [x]
  blks:∀ j blk,bs[j]? = some blk→∃ B cap len,φ' (base + j) = some ⟨true,B,cap,len⟩∧BlkRep w' S φ' B cap len blk
def FreshE (φ:Env) (base n:Nat):Prop:=∀ id,base≤id→id < base + n→φ id = none
theorem Ext.mono {w w':World} {S:Nat→Prop} {φ φ':Env} {base n:Nat} (h:Ext w φ base n w' φ') (hf:FreshE φ base n):Mono w S φ w' S φ':=by
  refine ⟨fun b s hb=>.inl ?_,fun B hB=>?_⟩
  · rw [h.same b,hb]
    intro hr
    rw [hf b hr.1 hr.2] at hb
    cases hb
  · obtain ⟨h1,h2,h3⟩:=hB
    refine ⟨⟨Nat.lt_of_lt_of_le h1 h.below.size,h2,?_⟩,h.below.block B h1⟩
    rintro ⟨id,cap,len,hid⟩
    by_cases hr:base≤id∧id < base + n
    · have:=h.new id _ hr.1 hr.2 hid B rfl
      omega
    · rw [h.same id hr] at hid
      exact h3 ⟨id,cap,len,hid⟩
theorem Ext.refl (w:World) (φ:Env) (base:Nat):Ext w φ base 0 w φ :=
  ⟨Below.refl _ _,fun _ _=>rfl,fun _ _ h1 h2=>absurd h2 (by omega),fun _ _ _ _ _ h1 h2=>absurd h2 (by omega)⟩
section
variable {P:Program} {w:World} {S:Nat→Prop} {φ:Env}
theorem pure_step {o : Oper} {a : Act} {K : Act → World → Prop} {Q : Exit → Act → World → Prop} {t : Tree AV} {s : Sem Value} {base : Nat}
    (he:execOp a.eval o = (do pure (.value (← s)))) (hg:Gives P w S φ t s)
    (h:(t.bind fun a=>Tree.ret (a,([]:List Blk))).wp fun r=>FreshE φ base r.2.length∧∀ x w' φ',ResPost w S φ base r.1 r.2 x w' φ'→K (a.put o.dst x) w'):o.wp P a w K Q:=by
  rw [Tree.wp_bind] at h
  obtain ⟨z,v,hs,hq,hr⟩:=hg _ h
  unfold Oper.wp
  rw [he,Sem.run_bind,hs]
  simp only [Result.andThen_ok,Sem.run_pure,Oper.upon_value]
  exact hq.2 z w φ ⟨Ext.refl _ _ _,hr,fun j blk hj=>by simp at hj⟩
def updE (φ:Env) (id:Nat) (s:Slot):Env:=fun j=>if j = id then some s else φ j
theorem updE_self (φ:Env) (id:Nat) (s:Slot):updE φ id s id = some s:=by simp [updE]
theorem updE_ne (φ:Env) {id j:Nat} (s:Slot) (h:j≠id):updE φ id s j = φ j:=by simp [updE,h]
theorem ext_new (o:Obj) (base cap len:Nat):Ext w φ base 1 (w.alloc o) (updE φ base ⟨true,some w.heap.size,cap,len⟩):=by
  refine ⟨(Below.refl _ _).alloc (Nat.le_refl _) _,fun id h=>updE_ne _ _ (by omega),fun id s h1 h2 h3 B hB=>?_,fun id id' s s' B h1 h2 h3 h4=>by omega⟩
  have:id = base:=by omega
  subst this
  rw [updE_self] at h3
  cases h3
  cases hB
  simp
theorem alloc_heap (o:Obj):(w.alloc o).heap[w.heap.size]? = some o:=heap_alloc_new w o
theorem new_cells {base : Nat} (hf : FreshE φ base 1) {cs : List AV} {us : Array Value} (hr : Reps w S φ cs us.toList) (e : TypeId) :
    Ext w φ base 1 (w.alloc (.cells us e)) (updE φ base ⟨true,some w.heap.size,0,us.size⟩) ∧
    ∀ j blk,[Blk.cells cs][j]? = some blk→∃ B cap len,updE φ base ⟨true,some w.heap.size,0,us.size⟩ (base + j) = some ⟨true,B,cap,len⟩ ∧
      BlkRep (w.alloc (.cells us e)) S (updE φ base ⟨true,some w.heap.size,0,us.size⟩) B cap len blk:=by
  have hx:=ext_new (w:=w) (φ:=φ) (.cells us e) base 0 us.size
  refine ⟨hx,fun j blk hj=>?_⟩
  cases j with
  | succ j=>simp at hj
  | zero =>
    simp at hj
    subst hj
    exact ⟨_,_,_,updE_self _ _ _,_,us,e,rfl,alloc_heap _,rfl,hr.mono (hx.mono hf)⟩
theorem enc_pure:∀ (r:RTy) (x:r.carrier),AV.pureL (r.enc x) = true
  | .int _,_=>rfl
  | .bool,_=>rfl
  | .str,_=>rfl
  | .ints _,_=>rfl
  | .spec,_=>rfl
  | .spr,_=>rfl
  | .fix,_=>rfl
  | .item,_=>rfl
  | .live,_=>rfl
  | .ape,_=>rfl
  | .opt,_=>rfl
  | .task,_=>rfl
  | .aim,_=>rfl
  | .op,_=>rfl
theorem pureL_app:∀ (as bs:List AV),AV.pureL (as ++ bs) = (AV.pureL as && AV.pureL bs)
  | [],bs=>by simp [AV.pureL]
  | a :: as,bs=>by simp [AV.pureL,pureL_app as bs,Bool.and_assoc]
theorem flatMap_pure (r:RTy):∀ xs:List r.carrier,AV.pureL (xs.flatMap r.enc) = true
  | []=>rfl
  | x :: xs=>by simp [List.flatMap_cons,pureL_app,enc_pure,flatMap_pure r xs]
theorem pure_reps {S':Nat→Prop} {φ':Env} (hst:∀ B,Stab w S φ B→Stab w S' φ' B) {as:List AV} {vs:List Value} (h:Reps w S φ as vs) (hp:AV.pureL as = true):Reps w S' φ' as vs:=by
  induction h with
  | nil=>exact .nil
  | any _ _ ih=>exact .any _ (ih (by simpa [AV.pureL,AV.pureV] using hp))
  | lit _ _ _ ih=>exact .lit _ _ (ih (by simpa [AV.pureL,AV.pureV] using hp))
  | int _ _ _ ih=>exact .int _ _ (ih (by simpa [AV.pureL,AV.pureV] using hp))
  | blit _ _ ih=>exact .blit _ (ih (by simpa [AV.pureL,AV.pureV] using hp))
  | bool _ _ ih=>exact .bool _ (ih (by simpa [AV.pureL,AV.pureV] using hp))
  | str _ _ ih=>exact .str _ (ih (by simpa [AV.pureL,AV.pureV] using hp))
  | nilp _ ih=>exact .nilp (ih (by simpa [AV.pureL,AV.pureV] using hp))
  | ptr h _ ih=>simp [AV.pureL,AV.pureV] at hp
  | rptr h _ ih=>simp [AV.pureL,AV.pureV] at hp
  | pv hs hc _ _ ih1 ih2 =>
    simp only [AV.pureL,AV.pureV,Bool.and_eq_true] at hp
    exact .pv (hst _ hs) hc (ih1 hp.1) (ih2 hp.2)
  | nils _ _ ih=>exact .nils _ (ih (by simpa [AV.pureL,AV.pureV] using hp))
  | own h _ ih=>simp [AV.pureL,AV.pureV] at hp
  | slc h _ ih=>simp [AV.pureL,AV.pureV] at hp
  | view0 _ _ hx _ _ _ ih=>exact .view0 _ _ hx _ _ (ih (by simpa [AV.pureL,AV.pureV] using hp))
  | view _ _ _ hc0 hs hc _ _ ih1 ih2=>exact .view _ _ _ hc0 (hst _ hs) hc (ih1 (flatMap_pure _ _)) (ih2 (by simpa [AV.pureL,AV.pureV] using hp))
  | lv0 _ _ _ ih =>
    simp only [AV.pureL,AV.pureV,Bool.and_eq_true] at hp
    exact .lv0 _ _ (ih hp.2)
  | lv _ _ hc0 hs hc _ _ ih1 ih2 =>
    simp only [AV.pureL,AV.pureV,Bool.and_eq_true] at hp
    exact .lv _ _ hc0 (hst _ hs) hc (ih1 hp.1) (ih2 hp.2)
  | fn _ _ _ _ ih1 ih2 ih3 =>
    simp only [AV.pureL,AV.pureV,Bool.and_eq_true] at hp
    exact .fn _ (ih1 hp.1.1) (ih2 hp.1.2) (ih3 hp.2)
  | nilfn _ ih=>exact .nilfn (ih (by simpa [AV.pureL,AV.pureV] using hp))
  | iface _ _ _ ih1 ih2 =>
    simp only [AV.pureL,AV.pureV,Bool.and_eq_true] at hp
    exact .iface _ (ih1 (by simp [AV.pureL,hp.1])) (ih2 hp.2)
  | niliface _ ih=>exact .niliface (ih (by simpa [AV.pureL,AV.pureV] using hp))
  | map h _ ih=>simp [AV.pureL,AV.pureV] at hp
  | nilmap _ ih=>exact .nilmap (ih (by simpa [AV.pureL,AV.pureV] using hp))
  | agg _ _ ih1 ih2 =>
    simp only [AV.pureL,AV.pureV,Bool.and_eq_true] at hp
    exact .agg (ih1 hp.1) (ih2 hp.2)
  | tup _ _ ih1 ih2 =>
    simp only [AV.pureL,AV.pureV,Bool.and_eq_true] at hp
    exact .tup (ih1 hp.1) (ih2 hp.2)
  | fv0 _ _ hx _ _ ih=>exact .fv0 _ _ hx _ (ih (by simpa [AV.pureL,AV.pureV] using hp))
  | fv _ _ hs hc _ _ ih1 ih2=>exact .fv _ _ (hst _ hs) hc (ih1 (flatMap_pure _ _)) (ih2 (by simpa [AV.pureL,AV.pureV] using hp))
theorem stab_none {B:Nat} (hs:Stab w S φ B):Stab w S Env.none B:=⟨hs.1,hs.2.1,fun ⟨_,_,_,h⟩=>by cases h⟩
theorem lower_repsE {look : Nat → Option Blk} (HL : HeapRep w S φ look) {ψ : Env} (hnone : ∀ B, Stab w S φ B → Stab w S ψ B) (hown : ∀ b B cap len blk, look b = some blk → φ b = some ⟨true, some B, cap, len⟩ → B < w.heap.size → Stab w S ψ B) : ∀ d,
    (∀ a a' v,lowerV look d a = some a'→Reps w S φ [a] [v]→Reps w S ψ [a'] [v]) ∧
    (∀ as as' vs,lowerL look d as = some as'→Reps w S φ as vs→Reps w S ψ as' vs):=by
  have hsize:∀ {B:Nat} {o:Obj},w.heap[B]? = some o→B < w.heap.size:=by
    intro B o h
    rcases Nat.lt_or_ge B w.heap.size with h' | h'
    · exact h'
    · rw [Array.getElem?_eq_none h'] at h; cases h
  intro d
  induction d with
  | zero=>exact ⟨fun a a' v h=>by simp [lowerV] at h,fun as as' vs h=>by simp [lowerL] at h⟩
  | succ d ih =>
    obtain ⟨ih1,ih2⟩:=ih
    refine ⟨fun a a' v h hr=>?_,fun as as' vs h hr=>?_⟩
    · unfold lowerV at h
      split at h
      · rename_i b
        split at h <;> try (cases h; done)
        rename_i r e xs hl
        cases h
        cases hr with
        | own h =>
          obtain ⟨s,h1,hv⟩:=h
          obtain ⟨B',cap,len,h3,rfl,us,h4,h5,h6⟩:=HL _ _ hl
          rw [h1] at h3
          cases h3
          cases B' with
          | none =>
            obtain ⟨a0,rfl⟩:∃ a,v = .slice a 0 0:=hv
            have h7:=h4.2
            rcases h7 with ⟨h7,h8⟩ | ⟨g,c,cur,hv,_⟩
            · have:xs = []:=List.eq_nil_of_length_eq_zero h8
              subst this
              exact .view0 _ _ rfl _ _ .nil
            · simp [baseOf] at hv
          | some B =>
            simp only [Slot.fits] at hv
            subst hv
            obtain ⟨h40,h7⟩:=h4
            have h4':w.ownsRow 0 e r.size (.slice (baseOf (some B)) xs.length cap) xs.length us:=⟨h40,h7⟩
            rcases h7 with ⟨h7,_⟩ | ⟨g,c,cur,hv,_,hh,h8,_⟩
            · simp [baseOf] at h7
            · simp [baseOf] at hv
              obtain ⟨rfl,rfl⟩:=hv
              exact .view _ _ _ h8 (hown _ _ _ _ _ hl h1 (hsize hh)) (ownsRow_cells h4') (pure_reps hnone h5 (flatMap_pure _ _)) .nil
      · rename_i b off n sz
        split at h <;> try (cases h; done)
        rename_i cs hl
        split at h <;> try (cases h; done)
        rename_i hle
        split at h <;> try (cases h; done)
        rename_i l hll
        cases h
        cases hr with
        | slc h =>
          obtain ⟨s,B,c,h1,h2,h3⟩:=h
          obtain ⟨B',cap,len,h4,B'',us,e,rfl,h5,h6,h7⟩:=HL _ _ hl
          rw [h1] at h4
          cases h4
          cases h2
          rcases h3 with ⟨rfl,a,rfl⟩ | ⟨h3,_,rfl⟩
          · exact .lv0 _ _ .nil
          · exact .lv _ _ h3 (hown _ _ _ _ _ hl h1 (hsize h5)) (by have:=((cellsAt_block h5).drop off).take (n * sz); simpa using this) (ih2 _ _ _ hll ((h7.drop off).take (n * sz))) .nil
      · rename_i b off
        split at h <;> try (cases h; done)
        rename_i cs hl
        split at h <;> try (cases h; done)
        rename_i hle
        split at h <;> try (cases h; done)
        rename_i l hll
        cases h
        cases hr with
        | ptr h =>
          obtain ⟨s,B,h1,h2,rfl⟩:=h
          obtain ⟨B',cap,len,h4,B'',us,e,rfl,h5,h6,h7⟩:=HL _ _ hl
          rw [h1] at h4
          cases h4
          cases h2
          exact .pv (hown _ _ _ _ _ hl h1 (hsize h5)) (by have:=(cellsAt_block h5).drop off; simpa using this) (ih2 _ _ _ hll (h7.drop off)) .nil
      · cases h
      · cases h; exact .any _ .nil
      · rename_i cs
        split at h <;> try (cases h; done)
        rename_i l hll
        cases h
        cases hr with
        | pv hs hc hr=>exact .pv (hnone _ hs) hc (ih2 _ _ _ hll hr) .nil
      · rename_i n cs
        split at h <;> try (cases h; done)
        rename_i l hll
        cases h
        cases hr with
        | lv0=>exact .lv0 _ _ .nil
        | lv _ _ h0 hs hc hr=>exact .lv _ _ h0 (hnone _ hs) hc (ih2 _ _ _ hll hr) .nil
      · split at h <;> try (cases h; done)
        rename_i x y hx hy
        cases h
        cases hr with
        | fn _ h1 h2=>exact .fn _ (ih2 _ _ _ hx h1) (ih2 _ _ _ hy h2) .nil
      · split at h <;> try (cases h; done)
        rename_i x hx
        cases h
        cases hr with
        | iface _ h1=>exact .iface _ (ih1 _ _ _ hx h1) .nil
      · split at h <;> try (cases h; done)
        rename_i l hll
        cases h
        cases hr with
        | agg h1=>exact .agg (ih2 _ _ _ hll h1) .nil
      · split at h <;> try (cases h; done)
        rename_i l hll
        cases h
        cases hr with
        | tup h1=>exact .tup (ih2 _ _ _ hll h1) .nil
      · cases h
        cases a <;> first
          | (cases hr with
             | view0 _ _ hx=>exact .view0 _ _ hx _ _ .nil
             | view _ _ _ h0 hs hc hr=>exact .view _ _ _ h0 (hnone _ hs) hc (pure_reps hnone hr (flatMap_pure _ _)) .nil)
          | exact pure_reps hnone hr rfl
          | exact (‹∀ (b:Nat) (r:RTy) (i:Int) (off:Nat),AV.rptr _ _ _ _ = AV.rptr b r i off→False› _ _ _ _ rfl).elim
          | exact (‹∀ (b off n sz:Nat),AV.slc _ _ _ _ = AV.slc b off n sz→False› _ _ _ _ rfl).elim
          | simp_all
    · cases as with
      | nil =>
        simp only [lowerL,Option.some.injEq] at h
        subst h
        cases hr.nil_inv
        exact .nil
      | cons a as =>
        simp only [lowerL] at h
        split at h <;> try (cases h; done)
        rename_i x xs hx hxs
        cases h
        obtain ⟨v,vs,rfl,h1,h2⟩:=hr.uncons
        exact (ih1 _ _ _ hx h1).cons (ih2 _ _ _ hxs h2)
theorem lower_reps {look : Nat → Option Blk} (HL : HeapRep w S φ look) (hdisj : ∀ B, Own φ B → ¬ S B) : ∀ d,
    (∀ a a' v,lowerV look d a = some a'→Reps w S φ [a] [v]→Reps w S Env.none [a'] [v]) ∧
    (∀ as as' vs,lowerL look d as = some as'→Reps w S φ as vs→Reps w S Env.none as' vs) :=
  lower_repsE HL (fun B hs=>stab_none hs) fun b B cap len blk _ hb hB=>⟨hB,hdisj _ ⟨_,_,_,hb⟩,fun ⟨_,_,_,h⟩=>by cases h⟩
theorem enc_free {r:RTy} (h:r.free = true) (x:r.carrier):AV.viewFreeL (r.enc x) = true:=by
  cases r <;> first | (cases h; done) | rfl
theorem viewFreeL_app:∀ (as bs:List AV),AV.viewFreeL (as ++ bs) = (AV.viewFreeL as && AV.viewFreeL bs)
  | [],bs=>by simp [AV.viewFreeL]
  | a :: as,bs=>by simp [AV.viewFreeL,viewFreeL_app as bs,Bool.and_assoc]
theorem flatMap_free {r:RTy} (h:r.free = true):∀ xs:List r.carrier,AV.viewFreeL (xs.flatMap r.enc) = true
  | []=>rfl
  | x :: xs=>by simp [List.flatMap_cons,viewFreeL_app,enc_free h,flatMap_free h xs]
theorem enc_shift (k:Nat):∀ (r:RTy) (x:r.carrier),AV.shiftL k (r.enc x) = r.enc x
  | .int _,_=>rfl
  | .bool,_=>rfl
  | .str,_=>rfl
  | .ints _,_=>rfl
  | .spec,_=>rfl
  | .spr,_=>rfl
  | .fix,_=>rfl
  | .item,_=>rfl
  | .live,_=>rfl
  | .ape,_=>rfl
  | .opt,_=>rfl
  | .task,_=>rfl
  | .aim,_=>rfl
  | .op,_=>rfl
theorem shiftL_app (k:Nat):∀ (as bs:List AV),AV.shiftL k (as ++ bs) = AV.shiftL k as ++ AV.shiftL k bs
  | [],bs=>by simp [AV.shiftL]
  | a :: as,bs=>by simp [AV.shiftL,shiftL_app k as bs]
theorem flatMap_shift (k:Nat) (r:RTy):∀ xs:List r.carrier,AV.shiftL k (xs.flatMap r.enc) = xs.flatMap r.enc
  | []=>rfl
  | x :: xs=>by simp [List.flatMap_cons,shiftL_app,enc_shift,flatMap_shift k r xs]
theorem shift_reps {w' : World} {S' : Nat → Prop} {ψ φ'' : Env} {base : Nat} (hd : ∀ id s, ψ id = some s → φ'' (base + id) = some s) {as : List AV} {vs : List Value} (h : Reps w' S' ψ as vs)
    (hv:AV.viewFreeL as = true∨∀ B,Stab w' S' ψ B→Stab w' S φ'' B):Reps w' S φ'' (AV.shiftL base as) vs:=by
  have sub:∀ {x:AV} {l:List AV},(AV.viewFreeL (x :: l) = true∨∀ B,Stab w' S' ψ B→Stab w' S φ'' B)→(AV.viewFreeL l = true∨∀ B,Stab w' S' ψ B→Stab w' S φ'' B):=by
    intro x l h
    rcases h with h | h
    · simp only [AV.viewFreeL,Bool.and_eq_true] at h; exact .inl h.2
    · exact .inr h
  induction h with
  | nil=>exact .nil
  | any _ _ ih=>exact .any _ (ih (sub hv))
  | lit _ _ _ ih=>exact .lit _ _ (ih (sub hv))
  | int _ _ _ ih=>exact .int _ _ (ih (sub hv))
  | blit _ _ ih=>exact .blit _ (ih (sub hv))
  | bool _ _ ih=>exact .bool _ (ih (sub hv))
  | str _ _ ih=>exact .str _ (ih (sub hv))
  | nilp _ ih=>exact .nilp (ih (sub hv))
  | ptr h _ ih=>obtain ⟨s,B,h1,h2⟩:=h; exact .ptr ⟨s,B,hd _ _ h1,h2⟩ (ih (sub hv))
  | rptr h _ ih=>obtain ⟨s,B,h1,h2⟩:=h; exact .rptr ⟨s,B,hd _ _ h1,h2⟩ (ih (sub hv))
  | pv hs hc _ _ ih1 ih2 =>
    rcases hv with hv | hv
    · simp [AV.viewFreeL,AV.viewFree] at hv
    · exact .pv (hv _ hs) hc (ih1 (.inr hv)) (ih2 (.inr hv))
  | nils _ _ ih=>exact .nils _ (ih (sub hv))
  | own h _ ih=>obtain ⟨s,h1,h2⟩:=h; exact .own ⟨s,hd _ _ h1,h2⟩ (ih (sub hv))
  | slc h _ ih=>obtain ⟨s,B,c,h1,h2⟩:=h; exact .slc ⟨s,B,c,hd _ _ h1,h2⟩ (ih (sub hv))
  | view0 _ _ hx _ _ _ ih=>exact .view0 _ _ hx _ _ (ih (sub hv))
  | view r xs _ hc0 hs hc _ _ ih1 ih2 =>
    rcases hv with hv | hv
    · simp [AV.viewFreeL,AV.viewFree] at hv
    · have:=ih1 (.inr hv)
      rw [flatMap_shift] at this
      exact .view _ _ _ hc0 (hv _ hs) hc this (ih2 (.inr hv))
  | lv0 _ _ _ ih=>exact .lv0 _ _ (ih (sub hv))
  | lv _ _ hc0 hs hc _ _ ih1 ih2 =>
    rcases hv with hv | hv
    · simp [AV.viewFreeL,AV.viewFree] at hv
    · exact .lv _ _ hc0 (hv _ hs) hc (ih1 (.inr hv)) (ih2 (.inr hv))
  | fn _ _ _ _ ih1 ih2 ih3 =>
    refine .fn _ (ih1 ?_) (ih2 ?_) (ih3 (sub hv))
    · rcases hv with hv | hv
      · simp only [AV.viewFreeL,AV.viewFree,Bool.and_eq_true] at hv; exact .inl hv.1.1
      · exact .inr hv
    · rcases hv with hv | hv
      · simp only [AV.viewFreeL,AV.viewFree,Bool.and_eq_true] at hv; exact .inl hv.1.2
      · exact .inr hv
  | nilfn _ ih=>exact .nilfn (ih (sub hv))
  | iface _ _ _ ih1 ih2 =>
    refine .iface _ (ih1 ?_) (ih2 (sub hv))
    rcases hv with hv | hv
    · simp only [AV.viewFreeL,AV.viewFree,Bool.and_eq_true] at hv; exact .inl (by simp [AV.viewFreeL,hv.1])
    · exact .inr hv
  | niliface _ ih=>exact .niliface (ih (sub hv))
  | map h _ ih=>obtain ⟨s,B,h1,h2⟩:=h; exact .map ⟨s,B,hd _ _ h1,h2⟩ (ih (sub hv))
  | nilmap _ ih=>exact .nilmap (ih (sub hv))
  | agg _ _ ih1 ih2 =>
    refine .agg (ih1 ?_) (ih2 (sub hv))
    rcases hv with hv | hv
    · simp only [AV.viewFreeL,AV.viewFree,Bool.and_eq_true] at hv; exact .inl hv.1
    · exact .inr hv
  | tup _ _ ih1 ih2 =>
    refine .tup (ih1 ?_) (ih2 (sub hv))
    rcases hv with hv | hv
    · simp only [AV.viewFreeL,AV.viewFree,Bool.and_eq_true] at hv; exact .inl hv.1
    · exact .inr hv
  | fv0 _ _ hx _ _ ih=>exact .fv0 _ _ hx _ (ih (sub hv))
  | fv r xs hs hc _ _ ih1 ih2 =>
    rcases hv with hv | hv
    · simp [AV.viewFreeL,AV.viewFree] at hv
    · have:=ih1 (.inr hv)
      rw [flatMap_shift] at this
      exact .fv _ _ (hv _ hs) hc this (ih2 (.inr hv))
theorem shift_blk {w' : World} {S' : Nat → Prop} {ψ φ'' : Env} {base : Nat} (hd : ∀ id s, ψ id = some s → φ'' (base + id) = some s) {B : Option Nat} {cap len : Nat} {blk : Blk} (h : BlkRep w' S' ψ B cap len blk)
    (hv:blkFree blk = true∨∀ B,Stab w' S' ψ B→Stab w' S φ'' B):BlkRep w' S φ'' B cap len (blk.shift base):=by
  cases blk with
  | cells cs =>
    obtain ⟨B',us,e,rfl,h1,h2,h3⟩:=h
    exact ⟨B',us,e,rfl,h1,h2,shift_reps hd h3 (hv.imp (fun h=>h) id)⟩
  | rows r e xs =>
    obtain ⟨h1,us,h2,h3,h4⟩:=h
    have:=shift_reps (S:=S) hd h3 (hv.imp (fun h=>flatMap_free h xs) id)
    rw [flatMap_shift] at this
    exact ⟨h1,us,h2,this,h4⟩
  | imap r es =>
    obtain ⟨B',ms,clock,rfl,h1,h2⟩:=h
    refine ⟨B',ms,clock,rfl,h1,?_⟩
    have key:∀ {es:List (Int × r.carrier)} {ms:List MapEntry},IMapRep w' S' ψ r es ms→IMapRep w' S φ'' r es ms:=by
      intro es
      induction es with
      | nil=>intro ms h; cases ms <;> exact h
      | cons p es ih =>
        intro ms h
        obtain ⟨k,x⟩:=p
        cases ms with
        | nil=>exact h
        | cons m ms =>
          obtain ⟨h1,h2,h3⟩:=h
          refine ⟨h1,?_,ih h3⟩
          have he:∀ {us:List Value},Reps w' S' ψ (r.enc x) us→Reps w' S φ'' (r.enc x) us:=by
            intro us h
            have:=shift_reps (S:=S) hd h (hv.imp (fun h=>enc_free h x) id)
            rwa [enc_shift] at this
          unfold ValRep at h2 ⊢
          split at h2
          · obtain ⟨us,hu,hr⟩:=h2; exact ⟨us,hu,he hr⟩
          · exact ⟨he h2.1,h2.2⟩
    exact key h2
  | lmap es =>
    obtain ⟨B',ms,clock,rfl,h1,h2⟩:=h
    refine ⟨B',ms,clock,rfl,h1,?_⟩
    have hst:∀ B,Stab w' S' ψ B→Stab w' S φ'' B:=hv.resolve_left (by simp [blkFree])
    have key:∀ {es:List (AV × AV)} {ms:List MapEntry},LMapRep w' S' ψ es ms→LMapRep w' S φ'' (es.map fun (a,b)=>(a.shift base,b.shift base)) ms:=by
      intro es
      induction es with
      | nil=>intro ms h; cases ms <;> exact h
      | cons p es ih =>
        intro ms h
        obtain ⟨k,x⟩:=p
        cases ms with
        | nil=>exact h
        | cons m ms =>
          obtain ⟨⟨j,rfl,h1⟩,h2,h3⟩:=h
          refine ⟨⟨j,rfl,h1⟩,?_,ih h3⟩
          have:=shift_reps (S:=S) hd h2 (.inr hst)
          simpa [AV.shiftL] using this
    exact key h2
def joinE (φ:Env) (base n:Nat) (ψ:Env):Env:=fun id=>if base≤id∧id < base + n then ψ (id - base) else φ id
theorem post_join {S' : Nat → Prop} {base : Nat} {v : AV} {bs : List Blk} {x : Value} {w' : World} {ψ : Env} (h : ResPost w S' Env.none 0 v bs x w' ψ)
    (hv:(v.viewFree = true∧bs.all blkFree = true)∨(∀ B,S' B↔(S B∨Own φ B))) :
    ResPost w S φ base (v.shift base) (bs.map (Blk.shift base)) x w' (joinE φ base bs.length ψ):=by
  have hdom:∀ id s,ψ id = some s→id < bs.length:=by
    intro id s hs
    rcases Nat.lt_or_ge id bs.length with h' | h'
    · exact h'
    · rw [h.ext.same id (by omega)] at hs; cases hs
  have hd:∀ id s,ψ id = some s→joinE φ base bs.length ψ (base + id) = some s:=by
    intro id s hs
    have:=hdom id s hs
    simp [joinE,this,hs]
  have hst:(∀ B,S' B↔(S B∨Own φ B))→∀ B,Stab w' S' ψ B→Stab w' S (joinE φ base bs.length ψ) B:=by
    intro hS B hB
    refine ⟨hB.1,fun hs=>hB.2.1 ((hS B).2 (.inl hs)),?_⟩
    rintro ⟨id,cap,len,hid⟩
    unfold joinE at hid
    split at hid
    · exact hB.2.2 ⟨_,_,_,hid⟩
    · exact hB.2.1 ((hS B).2 (.inr ⟨_,_,_,hid⟩))
  have hlen:(bs.map (Blk.shift base)).length = bs.length:=by simp
  refine ⟨?_,?_,?_⟩
  · rw [hlen]
    refine ⟨h.ext.below,fun id hn=>by simp [joinE,hn],fun id s h1 h2 h3 B hB=>?_,fun id id' s s' B h1 h2 h3 h4 h5 h6 h7 h8 h9 h10=>?_⟩
    · simp only [joinE,h1,h2,and_self,if_true] at h3
      exact h.ext.new (id - base) s (by omega) (by omega) h3 B hB
    · simp only [joinE,h1,h2,h3,h4,and_self,if_true] at h5 h6
      have:=h.ext.inj (id - base) (id' - base) s s' B (by omega) (by omega) (by omega) (by omega) h5 h6 h7 h8 h9 h10
      omega
  · have:=shift_reps (S:=S) hd h.val (hv.imp (fun h=>by simp [AV.viewFreeL,h.1]) hst)
    simpa [AV.shiftL] using this
  · intro j blk hj
    rw [List.getElem?_map] at hj
    cases hb:bs[j]? with
    | none=>simp [hb] at hj
    | some b =>
      simp [hb] at hj
      subst hj
      obtain ⟨B,cap,len,h1,h2⟩:=h.blks j b hb
      rw [Nat.zero_add] at h1
      refine ⟨B,cap,len,hd _ _ h1,shift_blk hd h2 (hv.imp (fun h=>?_) hst)⟩
      exact List.all_eq_true.1 h.2 b (List.mem_of_getElem? hb)
end
def Enters (P : Program) (g : Nat) : Prop := ∃ fn, P.funcs[g]? = some fn ∧ (fn.name == "runtime.NumGoroutine") = false ∧ fn.body.isNone = false
def ValidCon (P:Program) (g:Nat) (c:Con):Prop :=
  Enters P g∧∀ args r,(c args).Out r→∀ w S vals,(∀ B,S B→B < w.heap.size)→Reps w S Env.none args vals →
    Calls P g vals.toArray w fun e w'=>∃ x ψ,e = .returned x∧ResPost w S Env.none 0 r.1 r.2 x w' ψ
def ValidPcon (P:Program) (g:Nat) (f:List AV→Option AV):Prop :=
  Enters P g∧∀ args r,f args = some r→∀ w S φ vals,Reps w S φ args vals →
    Calls P g vals.toArray w fun e w'=>∃ x,e = .returned x∧Below w.heap.size w w'∧Reps w' S φ [r] [x]
theorem findCon_mem:∀ {l:List (Nat × Con)} {g:Nat} {c:Con},findCon l g = some c→(g,c) ∈ l
  | [],_,_,h=>by cases h
  | (b,x) :: l,g,c,h=>by
    unfold findCon at h
    cases hb:Nat.beq b g with
    | true =>
      rw [hb] at h
      cases h
      have:b = g:=by simpa using hb
      subst this
      simp
    | false =>
      rw [hb] at h
      exact List.mem_cons_of_mem _ (findCon_mem h)
theorem findPcon_mem:∀ {l:List (Nat × (List AV→Option AV))} {g:Nat} {c:List AV→Option AV},findPcon l g = some c→(g,c) ∈ l
  | [],_,_,h=>by cases h
  | (b,x) :: l,g,c,h=>by
    unfold findPcon at h
    cases hb:Nat.beq b g with
    | true =>
      rw [hb] at h
      cases h
      have:b = g:=by simpa using hb
      subst this
      simp
    | false =>
      rw [hb] at h
      exact List.mem_cons_of_mem _ (findPcon_mem h)
theorem callFunc_run {P:Program} {w:World} {g:Nat} (h:Enters P g) (args:Array Value):(callFunc g args).run P w = .ok (.enter g args) w:=by
  obtain ⟨fn,h1,h2,h3⟩:=h
  have h2' : ¬ fn.name = "runtime.NumGoroutine" := by simpa using h2
  have h3':¬ fn.body = none:=by intro e; rw [e] at h3; cases h3
  simp [callFunc,h1,h2',h3']
theorem callTo_run {P : Program} {w : World} {S : Nat → Prop} {φ : Env} {ρ : Operand → AV} {a : Act} {o : Oper} {c : Call} (ho : o.op = .call c) (hops : ∀ x ∈ o.op.operands, Reps w S φ [ρ x] [a.eval x])
    {g:Nat} {args:List AV} (h:callTo P ρ c = some (g,args)) (hg:Enters P g) :
    ∃ vals,(execOp a.eval o).run P w = .ok (.enter g vals.toArray) w∧Reps w S φ args vals:=by
  have hargs:Reps w S φ (c.args.toList.map ρ) (c.args.toList.map a.eval):=by
    have:∀ x ∈ c.args.toList,Reps w S φ [ρ x] [a.eval x]:=fun x hx=>hops x (by simp [ho,Op.operands,Call.operands,Array.mem_toList_iff.1 hx])
    revert this
    generalize c.args.toList = l
    intro this
    induction l with
    | nil=>exact .nil
    | cons x l ih=>exact (this x (by simp)).cons (ih fun y hy=>this y (by simp [hy]))
  unfold callTo at h
  split at h
  · rename_i f hc
    have hf:Reps w S φ [ρ f] [a.eval f]:=hops f (by simp [ho,Op.operands,Call.operands,hc])
    split at h
    · rename_i g' first captured hρ
      cases h
      rw [hρ] at hf
      generalize hv:a.eval f = fv at hf
      cases hf with
      | fn _ h1 h2 =>
        rename_i u1 u2 _
        refine ⟨u1 ++ c.args.toList.map a.eval ++ u2,?_,(h1.app hargs).app h2⟩
        have e:(u1.toArray ++ c.args.map a.eval) ++ u2.toArray = (u1 ++ c.args.toList.map a.eval ++ u2).toArray:=by
          apply Array.ext'
          simp
        simp only [execOp,ho,Sem.run_bind,resolve,hc,hv,Deferred.ofValue,Sem.run_pure,Result.andThen_ok,invoke]
        rw [e,callFunc_run hg]
    · rename_i t path g' pointer first captured hρ
      split at h
      · rename_i hpath
        split at h <;> try (cases h; done)
        rename_i x rest hx
        split at h <;> try (cases h; done)
        rename_i x' hx'
        cases h
        rw [hρ] at hf
        generalize hv:a.eval f = fv at hf
        cases hf with
        | fn _ h1 h2 =>
          rename_i u1 u2 _
          have h3:=h1.app hargs
          rw [hx] at h3
          obtain ⟨xv,restv,e,h4,h5⟩:=h3.uncons
          have ex:x' = x:=by
            unfold recvAt at hx'
            split at hx' <;> first | (cases hx'; rfl) | cases hx'
          subst ex
          refine ⟨xv :: restv,?_,h4.cons h5⟩
          have e':u1.toArray ++ c.args.map a.eval = (xv :: restv).toArray:=by
            rw [← e]
            apply Array.ext'
            simp
          have hpath':path.toList = []:=by
            have:path = #[]:=by simpa using hpath
            simp [this]
          have hrecv:(receiverVia t xv path pointer).run P w = .ok xv w:=by
            unfold recvAt at hx'
            split at hx' <;> try (cases hx'; done)
            · rename_i e1 hu
              simp [receiverVia,hpath',follow,receiverAt,und_run hu,Place.get]
            · rename_i d _ hnp hu
              cases d <;> first
                | (exact absurd rfl (hnp _))
                | simp [receiverVia,hpath',follow,receiverAt,und_run hu,Place.get]
          simp only [execOp,ho,Sem.run_bind,resolve,hc,hv,Deferred.ofValue,Sem.run_pure,Result.andThen_ok,invoke]
          rw [e']
          simp [hrecv,callFunc_run hg]
      · cases h
    · cases h
  · rename_i recv name hc
    have hf:Reps w S φ [ρ recv] [a.eval recv]:=hops recv (by simp [ho,Op.operands,Call.operands,hc])
    split at h
    · rename_i t v hρ
      split at h <;> try (cases h; done)
      rename_i i hi
      split at h <;> try (cases h; done)
      rename_i m hm
      split at h <;> try (cases h; done)
      rename_i g' pointer hmf
      split at h <;> try (cases h; done)
      rename_i hpath
      split at h <;> try (cases h; done)
      rename_i x hx
      cases h
      rw [hρ] at hf
      generalize hv:a.eval recv = fv at hf
      cases hf with
      | iface _ h1 =>
        rename_i xv _
        have ex:x = v:=by
          unfold recvAt at hx
          split at hx <;> first | (cases hx; rfl) | cases hx
        subst ex
        refine ⟨xv :: c.args.toList.map a.eval,?_,h1.cons hargs⟩
        have hpath':m.path.toList = []:=by
          have:m.path = #[]:=by simpa using hpath
          simp [this]
        have hrecv:∀ wr,(receiverAt t (.val xv) pointer wr).run P w = .ok xv w:=by
          intro wr
          unfold recvAt at hx
          split at hx <;> try (cases hx; done)
          · rename_i e1 hu
            simp [receiverAt,und_run hu,Place.get]
          · rename_i d _ hnp hu
            cases d <;> first
              | (exact absurd rfl (hnp _))
              | simp [receiverAt,und_run hu,Place.get]
        have hmeth:(method (P.types.size + Made.depth) t xv name).run P w = .ok (g,xv) w:=by
          obtain ⟨n,hn⟩:∃ n,P.types.size + Made.depth = n + 1:=⟨P.types.size + 99,by simp [Made.depth]⟩
          rw [hn]
          simp [method,info_run hi,hm,hpath',follow,hmf,hrecv]
        have e':#[xv] ++ c.args.map a.eval = (xv :: c.args.toList.map a.eval).toArray:=by
          apply Array.ext'
          simp
        have e0:(#[Value.iface t xv] ++ c.args.map a.eval)[0]? = some (.iface t xv):=by rw [Array.getElem?_append_left (by simp)]; rfl
        have e1:(#[Value.iface t xv] ++ c.args.map a.eval).extract 1 (#[Value.iface t xv] ++ c.args.map a.eval).size = c.args.map a.eval:=by
          apply Array.ext'
          simp
          rw [List.take_of_length_le (by simp)]
        simp only [execOp,ho,Sem.run_bind,resolve,hc,hv,Sem.run_pure,Result.andThen_ok,invoke,e0,e1]
        simp only [callMethod,Sem.run_bind,run_program,Result.andThen_ok,hmeth]
        rw [e',callFunc_run hg]
    · cases h
  · cases h
end Go.Fx
