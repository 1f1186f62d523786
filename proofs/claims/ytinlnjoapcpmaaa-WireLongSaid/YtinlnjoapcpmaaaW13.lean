/- The wire seat's functions: what bytes ask. -/
import Derived.Test.YtinlnjoapcpmaaaW12
namespace Go.Fx
open Go Go.Proofs

def noGet : Tree (AV × List Blk) := .ret (.tup [.agg (zeros 13 ++ [.nils]), .blit false], [])
def kindOf (b : List Int) : Int := IntKind.i64.wrap (rd (.int .u8) b 0)
def tk (b : List Int) (s : Int) : List Int := (b.take s.toNat).drop (0 : Int).toNat
def dp (b : List Int) (s : Int) : List Int := (b.take (b.length : Int).toNat).drop s.toNat
def rdT (b : List Int) (s : Int) (k : Int → List Int → Tree (AV × List Blk)) : Tree (AV × List Blk) :=
  .ite (decide ((b.length : Int) < s)) noGet (.asrt (0 ≤ (0 : Int) ∧ 0 ≤ s ∧ s ≤ b.length) (.asrt (((tk b s).length : Int) < 9223372036854775807) (.asrt (0 ≤ s ∧ s ≤ b.length ∧ (b.length : Int) ≤ b.length) (k (getL 0 (tk b s)) (dp b s)))))
def finG (o : Fu.Op) (cs : List AV) (b : List Int) : Tree (AV × List Blk) :=
  .asrt (decide ((b.length : Int) > 0) = false → (o.D.length : Int) < 9223372036854775807) (.ite (decide ((b.length : Int) > 0) || !mayOp o) noGet (.ret (.tup [.agg cs, .blit true], [])))
def z0 : AV := .lit .i64 0
noncomputable def junk11 (b : List Int) (path : List Nat) : Tree (AV × List Blk) := nav0 path (callC w31 200 11 [.view (.int .u8) b])
noncomputable def lastG (b0 : List Int) (path : List Nat) (o : Fu.Op) (cs : List AV) (b : List Int) : Tree (AV × List Blk) :=
  .ite (kindOf b0 == 4) (junk11 b0 path) (finG o cs b)
def rdP (n : Nat) : List Nat := (List.replicate n [2, 0, 0, 0]).flatten
noncomputable def get0 (b : List Int) : Tree (AV × List Blk) :=
  rdT (dp b 1) 1 fun c r => rdT r 1 fun t r => rdT r 1 fun mx r => rdT r 1 fun m r => rdT r 1 fun k r => rdT r 1 fun e r =>
    lastG b ([2, 0, 0, 1] ++ rdP 6 ++ [1]) ⟨kindOf b, 0, ⟨c, t, mx, m, k, e⟩, 0, 0, 0, 0, 0, []⟩ [.int .i64 (kindOf b), z0, .int .i64 c, .int .i64 t, .int .i64 mx, .int .i64 m, .int .i64 k, .int .i64 e, z0, z0, z0, z0, z0, .nils] r
noncomputable def get1 (b : List Int) : Tree (AV × List Blk) :=
  rdT (dp b 1) 2 fun id r => rdT r 1 fun t r => rdT r 1 fun mx r =>
    lastG b ([2, 0, 0, 2, 1] ++ rdP 3 ++ [1]) ⟨kindOf b, id, ⟨0, 0, 0, 0, 0, 0⟩, t, mx, 0, 0, 0, []⟩ [.int .i64 (kindOf b), .int .i64 id, z0, z0, z0, z0, z0, z0, .int .i64 t, .int .i64 mx, z0, z0, z0, .nils] r
noncomputable def get2 (b : List Int) : Tree (AV × List Blk) :=
  rdT (dp b 1) 2 fun id r =>
    lastG b ([2, 0, 0, 2, 2, 1] ++ rdP 1 ++ [1]) ⟨kindOf b, id, ⟨0, 0, 0, 0, 0, 0⟩, 0, 0, 0, 0, 0, []⟩ [.int .i64 (kindOf b), .int .i64 id, z0, z0, z0, z0, z0, z0, z0, z0, z0, z0, z0, .nils] r
noncomputable def get3 (b : List Int) : Tree (AV × List Blk) :=
  rdT (dp b 1) 1 fun wi r => rdT r 1 fun c r => rdT r 2 fun v r =>
    lastG b ([2, 0, 0, 2, 2, 2, 1] ++ rdP 3 ++ [1]) ⟨kindOf b, 0, ⟨0, 0, 0, 0, 0, 0⟩, 0, 0, wi, c, v, []⟩ [.int .i64 (kindOf b), z0, z0, z0, z0, z0, z0, z0, z0, z0, .int .i64 wi, .int .i64 c, .int .i64 v, .nils] r
def get4 (b0 b : List Int) : Tree (AV × List Blk) :=
  .asrt (((b.length : Int) == 0) = false → 0 ≤ (0 : Int) ∧ (0 : Int) < b.length)
   (.ite ((b.length : Int) == 0 || IntKind.i64.wrap (rd (.int .u8) b 0) != IntKind.i64.wrap ((b.length : Int) - 1)) noGet
    (.asrt (0 ≤ (1 : Int) ∧ (1 : Int) ≤ b.length ∧ (b.length : Int) ≤ b.length)
     (.asrt (3 = 3 ∧ T11 (dp b 1, ([], kindOf b0), 0) = T11 (dp b 1, ([], kindOf b0), 0))
      (.asrt (0 ≤ (0 : Int) ∧ ((dp b 1).length : Int) < maxI64 ∧ okX nx11 (fun _ _ => (none : Option Unit)) ok11 ([], kindOf b0) ((dp b 1).drop (0 : Int).toNat))
       (let ds := (foldX nx11 ([], kindOf b0) ((dp b 1).drop (0 : Int).toNat)).1
        let k := (foldX nx11 ([], kindOf b0) ((dp b 1).drop (0 : Int).toNat)).2
        .asrt ((ds.length : Int) < 9223372036854775807) (.ite (!mayOp ⟨k, 0, ⟨0, 0, 0, 0, 0, 0⟩, 0, 0, 0, 0, 0, ds⟩) noGet
          (.ret (.tup [.agg (opK k (.own 0)), .blit true], [.rows (.int .i64) 3 ds]))))))))
def kz (b : List Int) : List AV := [.int .i64 (kindOf b), z0, z0, z0, z0, z0, z0, z0, z0, z0, z0, z0, z0, .nils]
noncomputable def getT (b : List Int) : Tree (AV × List Blk) :=
  .ite ((b.length : Int) == 0) noGet (.asrt (0 ≤ (0 : Int) ∧ (0 : Int) < b.length) (.asrt (0 ≤ (1 : Int) ∧ (1 : Int) ≤ b.length ∧ (b.length : Int) ≤ b.length)
    (.ite (kindOf b == 0) (get0 b) (.ite (kindOf b == 1) (get1 b) (.ite (kindOf b == 2) (get2 b) (.ite (kindOf b == 3) (get3 b)
      (.ite (kindOf b == 4) (get4 b (dp b 1)) (finG ⟨kindOf b, 0, ⟨0, 0, 0, 0, 0, 0⟩, 0, 0, 0, 0, 0, []⟩ (kz b) (dp b 1)))))))))
theorem f11 (b : List Int) : callC w31 200 11 [.view (.int .u8) b] = getT b := by kernel_rfl

/-- What bytes would ask. -/
def cand (b : List Int) : Fu.Op :=
  let k := b.headD 0
  let n (i : Nat) : Int := (b.drop 1 ++ [0, 0, 0, 0, 0, 0]).getD i 0
  if k = 0 then ⟨k, 0, ⟨n 0, n 1, n 2, n 3, n 4, n 5⟩, 0, 0, 0, 0, 0, []⟩
  else if k = 1 then ⟨k, n 0 * 256 + n 1, ⟨0, 0, 0, 0, 0, 0⟩, n 2, n 3, 0, 0, 0, []⟩
  else if k = 2 then ⟨k, n 0 * 256 + n 1, ⟨0, 0, 0, 0, 0, 0⟩, 0, 0, 0, 0, 0, []⟩
  else if k = 3 then ⟨k, 0, ⟨0, 0, 0, 0, 0, 0⟩, 0, 0, n 0, n 1, n 2 * 256 + n 3, []⟩
  else ⟨k, 0, ⟨0, 0, 0, 0, 0, 0⟩, 0, 0, 0, 0, 0, if k = 4 then b.drop 2 else []⟩
/-- Whether bytes ask something. -/
def asks (b : List Int) : Bool := !b.isEmpty && mayOp (cand b) && decide (putB (cand b) = b)
def opCellsD (o : Fu.Op) (d : AV) : List AV := [.int .i64 o.Kind, .int .i64 o.ID, .int .i64 o.S.C, .int .i64 o.S.T, .int .i64 o.S.Max, .int .i64 o.S.M, .int .i64 o.S.K, .int .i64 o.S.E, .int .i64 o.T, .int .i64 o.Max, .int .i64 o.Within, .int .i64 o.C, .int .i64 o.V, d]
def isGet (o : Fu.Op) : Tree (AV × List Blk) :=
  .ite (o.Kind == 4) (.ret (.tup [.agg (opCellsD o (.own 0)), .blit true], [.rows (.int .i64) 3 o.D])) (.ret (.tup [.agg (opCellsD o .nils), .blit true], []))
def con11 : Con
  | [x] => match x.asView (.int .u8) with
    | some b => .asrt (bytesOK b ∧ (b.length : Int) < 17592186044416) (.ite (asks b) (isGet (cand b)) noGet)
    | none => .fail
  | _ => .fail

def noGetR : AV × List Blk := (.tup [.agg (zeros 13 ++ [.nils]), .blit false], [])
theorem Rez.no : Rez noGet noGetR := .ret (.refl _) rfl
def nilR (o : Fu.Op) : AV × List Blk := (.tup [.agg (opCellsD o .nils), .blit true], [])
def ownR (o : Fu.Op) : AV × List Blk := (.tup [.agg (opCellsD o (.own 0)), .blit true], [.rows (.int .i64) 3 o.D])
/-- What is told of bytes. -/
def getR (b : List Int) : AV × List Blk := if asks b = true then (if (cand b).Kind = 4 then ownR (cand b) else nilR (cand b)) else noGetR

theorem tk1 (a : Int) (l : List Int) : tk (a :: l) 1 = [a] := by simp [tk]
theorem tk2 (a b : Int) (l : List Int) : tk (a :: b :: l) 2 = [a, b] := by simp [tk]
theorem dp_eq (b : List Int) (s : Int) : dp b s = b.drop s.toNat := by unfold dp; rw [Int.toNat_natCast, List.take_length]
theorem dp1 (a : Int) (l : List Int) : dp (a :: l) 1 = l := dp_eq _ _
theorem dp2 (a b : Int) (l : List Int) : dp (a :: b :: l) 2 = l := dp_eq _ _
theorem rdT1 {a : Int} {l : List Int} {k : Int → List Int → Tree (AV × List Blk)} {r : AV × List Blk} (ha : 0 ≤ a ∧ a ≤ 255) (h : Rez (k a l) r) : Rez (rdT (a :: l) 1 k) r := by
  refine .itee (by simp; omega) (.asrt (by simp; omega) (.asrt (by rw [tk1]; simp) (.asrt (by simp; omega) ?_)))
  rw [tk1, dp1, getL1 ha]
  exact h
theorem rdT2 {a b : Int} {l : List Int} {k : Int → List Int → Tree (AV × List Blk)} {r : AV × List Blk} (ha : 0 ≤ a ∧ a ≤ 255) (hb : 0 ≤ b ∧ b ≤ 255) (h : Rez (k (a * 256 + b) l) r) : Rez (rdT (a :: b :: l) 2 k) r := by
  refine .itee (by simp; omega) (.asrt (by simp; omega) (.asrt (by rw [tk2]; simp) (.asrt (by simp; omega) ?_)))
  rw [tk2, dp2, getL2 ha hb]
  exact h
theorem rdT1_no {k : Int → List Int → Tree (AV × List Blk)} : Rez (rdT [] 1 k) noGetR := .itet (by simp) .no
theorem rdT2_no {k : Int → List Int → Tree (AV × List Blk)} : Rez (rdT [] 2 k) noGetR := .itet (by simp) .no
theorem rdT2_no1 {a : Int} {k : Int → List Int → Tree (AV × List Blk)} : Rez (rdT [a] 2 k) noGetR := .itet (by simp) .no
theorem fin_no {o : Fu.Op} {cs : List AV} {a : Int} {l : List Int} : Rez (finG o cs (a :: l)) noGetR := .asrt (fun h => by simp at h) (.itet (by simp) .no)
theorem fin_nil {o : Fu.Op} {cs : List AV} (hd : o.D = []) (hc : AsArgs cs (opCellsD o .nils)) : Rez (finG o cs []) (if mayOp o = true then nilR o else noGetR) := by
  refine .asrt (fun _ => by simp [hd]) ?_
  by_cases hm : mayOp o = true
  · rw [if_pos hm]
    exact .itee (by simp [hm]) (.ret (.tup (.cons (.agg hc) (.refl _))) rfl)
  · rw [if_neg hm]
    exact .itet (by simp [hm]) .no

theorem rd_cons0 (x : Int) (r : List Int) : rd (.int .u8) (x :: r) 0 = x := rfl
theorem kindOf_cons {x : Int} {r : List Int} (hx : 0 ≤ x ∧ x ≤ 255) : kindOf (x :: r) = x := by unfold kindOf; rw [rd_cons0, wrap_fits (by omega) (by omega)]
theorem asks_no {b : List Int} (h : putB (cand b) ≠ b) : asks b = false := by unfold asks; simp [h]
theorem asks_len {b : List Int} (h : (putB (cand b)).length ≠ b.length) : asks b = false := asks_no fun e => h (by rw [e])
theorem asks_of {x : Int} {r : List Int} (h : putB (cand (x :: r)) = x :: r) : asks (x :: r) = mayOp (cand (x :: r)) := by unfold asks; simp [h]
theorem getR_no {b : List Int} (h : asks b = false) : getR b = noGetR := by unfold getR; rw [h]; rfl
theorem getR_nil {b : List Int} (h : asks b = mayOp (cand b)) (hk : (cand b).Kind ≠ 4) : getR b = if mayOp (cand b) = true then nilR (cand b) else noGetR := by unfold getR; rw [h, if_neg hk]
theorem byteOf_id {x : Int} (h : 0 ≤ x ∧ x ≤ 255) : byteOf x 0 = x := by rw [byteOf0]; omega
theorem byteHi {x y : Int} (h : 0 ≤ x ∧ x ≤ 255) (h' : 0 ≤ y ∧ y ≤ 255) : byteOf (x * 256 + y) 8 = x := by rw [byteOf8]; omega
theorem byteLo {x y : Int} (h' : 0 ≤ y ∧ y ≤ 255) : byteOf (x * 256 + y) 0 = y := by rw [byteOf0]; omega
theorem wrap8_id {x : Int} (h : 0 ≤ x ∧ x ≤ 255) : IntKind.u8.wrap x = x := by rw [wrap_u8]; omega

theorem get0_rez {r : List Int} (hr : bytesOK r) : Rez (get0 (0 :: r)) (getR (0 :: r)) := by
  have hl : (putB (cand (0 :: r))).length = 7 := by simp [cand, putB]
  unfold get0
  rw [dp1]
  have no : r.length ≠ 6 → getR (0 :: r) = noGetR := fun h => getR_no (asks_len (by rw [hl]; simp; omega))
  match r, hr, no with
  | [], _, no => rw [no (by simp)]; exact rdT1_no
  | [a], hr, no =>
    rw [no (by simp)]
    obtain ⟨ha, _⟩ := hr.cons
    exact rdT1 ha rdT1_no
  | [a, b], hr, no =>
    rw [no (by simp)]
    obtain ⟨ha, hr⟩ := hr.cons; obtain ⟨hb, _⟩ := hr.cons
    exact rdT1 ha (rdT1 hb rdT1_no)
  | [a, b, c], hr, no =>
    rw [no (by simp)]
    obtain ⟨ha, hr⟩ := hr.cons; obtain ⟨hb, hr⟩ := hr.cons; obtain ⟨hc, _⟩ := hr.cons
    exact rdT1 ha (rdT1 hb (rdT1 hc rdT1_no))
  | [a, b, c, d], hr, no =>
    rw [no (by simp)]
    obtain ⟨ha, hr⟩ := hr.cons; obtain ⟨hb, hr⟩ := hr.cons; obtain ⟨hc, hr⟩ := hr.cons; obtain ⟨hd, _⟩ := hr.cons
    exact rdT1 ha (rdT1 hb (rdT1 hc (rdT1 hd rdT1_no)))
  | [a, b, c, d, e], hr, no =>
    rw [no (by simp)]
    obtain ⟨ha, hr⟩ := hr.cons; obtain ⟨hb, hr⟩ := hr.cons; obtain ⟨hc, hr⟩ := hr.cons; obtain ⟨hd, hr⟩ := hr.cons; obtain ⟨he, _⟩ := hr.cons
    exact rdT1 ha (rdT1 hb (rdT1 hc (rdT1 hd (rdT1 he rdT1_no))))
  | a :: b :: c :: d :: e :: f :: g :: l, hr, no =>
    rw [no (by simp)]
    obtain ⟨ha, hr⟩ := hr.cons; obtain ⟨hb, hr⟩ := hr.cons; obtain ⟨hc, hr⟩ := hr.cons; obtain ⟨hd, hr⟩ := hr.cons; obtain ⟨he, hr⟩ := hr.cons; obtain ⟨hf, _⟩ := hr.cons
    exact rdT1 ha (rdT1 hb (rdT1 hc (rdT1 hd (rdT1 he (rdT1 hf (.itee (by rw [kindOf_cons (by omega)]; rfl) fin_no))))))
  | [a, b, c, d, e, f], hr, _ =>
    obtain ⟨ha, hr⟩ := hr.cons; obtain ⟨hb, hr⟩ := hr.cons; obtain ⟨hc, hr⟩ := hr.cons; obtain ⟨hd, hr⟩ := hr.cons; obtain ⟨he, hr⟩ := hr.cons; obtain ⟨hf, _⟩ := hr.cons
    have ec : cand [0, a, b, c, d, e, f] = ⟨kindOf [0, a, b, c, d, e, f], 0, ⟨a, b, c, d, e, f⟩, 0, 0, 0, 0, 0, []⟩ := by rw [kindOf_cons (by omega)]; rfl
    rw [getR_nil (asks_of (by simp [cand, putB, byteOf_id, ha, hb, hc, hd, he, hf]; decide)) (by rw [ec, kindOf_cons (by omega)]; simp), ec]
    refine rdT1 ha (rdT1 hb (rdT1 hc (rdT1 hd (rdT1 he (rdT1 hf (.itee (by rw [kindOf_cons (by omega)]; rfl) (fin_nil rfl ?_)))))))
    exact .cons (.refl _) (.cons zAs (.cons (.refl _) (.cons (.refl _) (.cons (.refl _) (.cons (.refl _) (.cons (.refl _) (.cons (.refl _) (.cons zAs (.cons zAs (.cons zAs (.cons zAs (.cons zAs (AsArgs.refl _)))))))))))))
theorem get1_rez {r : List Int} (hr : bytesOK r) : Rez (get1 (1 :: r)) (getR (1 :: r)) := by
  have hl : (putB (cand (1 :: r))).length = 5 := by simp [cand, putB]
  unfold get1
  rw [dp1]
  have no : r.length ≠ 4 → getR (1 :: r) = noGetR := fun h => getR_no (asks_len (by rw [hl]; simp; omega))
  match r, hr, no with
  | [], _, no => rw [no (by simp)]; exact rdT2_no
  | [a], hr, no => rw [no (by simp)]; exact rdT2_no1
  | [a, b], hr, no =>
    rw [no (by simp)]
    obtain ⟨ha, hr⟩ := hr.cons; obtain ⟨hb, _⟩ := hr.cons
    exact rdT2 ha hb rdT1_no
  | [a, b, c], hr, no =>
    rw [no (by simp)]
    obtain ⟨ha, hr⟩ := hr.cons; obtain ⟨hb, hr⟩ := hr.cons; obtain ⟨hc, _⟩ := hr.cons
    exact rdT2 ha hb (rdT1 hc rdT1_no)
  | a :: b :: c :: d :: g :: l, hr, no =>
    rw [no (by simp)]
    obtain ⟨ha, hr⟩ := hr.cons; obtain ⟨hb, hr⟩ := hr.cons; obtain ⟨hc, hr⟩ := hr.cons; obtain ⟨hd, _⟩ := hr.cons
    exact rdT2 ha hb (rdT1 hc (rdT1 hd (.itee (by rw [kindOf_cons (by omega)]; rfl) fin_no)))
  | [a, b, c, d], hr, _ =>
    obtain ⟨ha, hr⟩ := hr.cons; obtain ⟨hb, hr⟩ := hr.cons; obtain ⟨hc, hr⟩ := hr.cons; obtain ⟨hd, _⟩ := hr.cons
    have ec : cand [1, a, b, c, d] = ⟨kindOf [1, a, b, c, d], a * 256 + b, ⟨0, 0, 0, 0, 0, 0⟩, c, d, 0, 0, 0, []⟩ := by rw [kindOf_cons (by omega)]; rfl
    rw [getR_nil (asks_of (by simp [cand, putB, byteOf_id, byteHi, byteLo, ha, hb, hc, hd]; decide)) (by rw [ec, kindOf_cons (by omega)]; simp), ec]
    refine rdT2 ha hb (rdT1 hc (rdT1 hd (.itee (by rw [kindOf_cons (by omega)]; rfl) (fin_nil rfl ?_))))
    exact .cons (.refl _) (.cons (.refl _) (.cons zAs (.cons zAs (.cons zAs (.cons zAs (.cons zAs (.cons zAs (.cons (.refl _) (.cons (.refl _) (.cons zAs (.cons zAs (.cons zAs (AsArgs.refl _)))))))))))))
theorem get2_rez {r : List Int} (hr : bytesOK r) : Rez (get2 (2 :: r)) (getR (2 :: r)) := by
  have hl : (putB (cand (2 :: r))).length = 3 := by simp [cand, putB]
  unfold get2
  rw [dp1]
  have no : r.length ≠ 2 → getR (2 :: r) = noGetR := fun h => getR_no (asks_len (by rw [hl]; simp; omega))
  match r, hr, no with
  | [], _, no => rw [no (by simp)]; exact rdT2_no
  | [a], hr, no => rw [no (by simp)]; exact rdT2_no1
  | a :: b :: g :: l, hr, no =>
    rw [no (by simp)]
    obtain ⟨ha, hr⟩ := hr.cons; obtain ⟨hb, hr⟩ := hr.cons
    exact rdT2 ha hb (.itee (by rw [kindOf_cons (by omega)]; rfl) fin_no)
  | [a, b], hr, _ =>
    obtain ⟨ha, hr⟩ := hr.cons; obtain ⟨hb, hr⟩ := hr.cons
    have ec : cand [2, a, b] = ⟨kindOf [2, a, b], a * 256 + b, ⟨0, 0, 0, 0, 0, 0⟩, 0, 0, 0, 0, 0, []⟩ := by rw [kindOf_cons (by omega)]; rfl
    rw [getR_nil (asks_of (by simp [cand, putB, byteHi, byteLo, ha, hb]; decide)) (by rw [ec, kindOf_cons (by omega)]; simp), ec]
    refine rdT2 ha hb (.itee (by rw [kindOf_cons (by omega)]; rfl) (fin_nil rfl ?_))
    exact .cons (.refl _) (.cons (.refl _) (.cons zAs (.cons zAs (.cons zAs (.cons zAs (.cons zAs (.cons zAs (.cons zAs (.cons zAs (.cons zAs (.cons zAs (.cons zAs (AsArgs.refl _)))))))))))))
theorem get3_rez {r : List Int} (hr : bytesOK r) : Rez (get3 (3 :: r)) (getR (3 :: r)) := by
  have hl : (putB (cand (3 :: r))).length = 5 := by simp [cand, putB]
  unfold get3
  rw [dp1]
  have no : r.length ≠ 4 → getR (3 :: r) = noGetR := fun h => getR_no (asks_len (by rw [hl]; simp; omega))
  match r, hr, no with
  | [], _, no => rw [no (by simp)]; exact rdT1_no
  | [a], hr, no =>
    rw [no (by simp)]
    obtain ⟨ha, _⟩ := hr.cons
    exact rdT1 ha rdT1_no
  | [a, b], hr, no =>
    rw [no (by simp)]
    obtain ⟨ha, hr⟩ := hr.cons; obtain ⟨hb, _⟩ := hr.cons
    exact rdT1 ha (rdT1 hb rdT2_no)
  | [a, b, c], hr, no =>
    rw [no (by simp)]
    obtain ⟨ha, hr⟩ := hr.cons; obtain ⟨hb, hr⟩ := hr.cons; obtain ⟨hc, _⟩ := hr.cons
    exact rdT1 ha (rdT1 hb rdT2_no1)
  | a :: b :: c :: d :: g :: l, hr, no =>
    rw [no (by simp)]
    obtain ⟨ha, hr⟩ := hr.cons; obtain ⟨hb, hr⟩ := hr.cons; obtain ⟨hc, hr⟩ := hr.cons; obtain ⟨hd, _⟩ := hr.cons
    exact rdT1 ha (rdT1 hb (rdT2 hc hd (.itee (by rw [kindOf_cons (by omega)]; rfl) fin_no)))
  | [a, b, c, d], hr, _ =>
    obtain ⟨ha, hr⟩ := hr.cons; obtain ⟨hb, hr⟩ := hr.cons; obtain ⟨hc, hr⟩ := hr.cons; obtain ⟨hd, _⟩ := hr.cons
    have ec : cand [3, a, b, c, d] = ⟨kindOf [3, a, b, c, d], 0, ⟨0, 0, 0, 0, 0, 0⟩, 0, 0, a, b, c * 256 + d, []⟩ := by rw [kindOf_cons (by omega)]; rfl
    rw [getR_nil (asks_of (by simp [cand, putB, byteOf_id, byteHi, byteLo, ha, hb, hc, hd]; decide)) (by rw [ec, kindOf_cons (by omega)]; simp), ec]
    refine rdT1 ha (rdT1 hb (rdT2 hc hd (.itee (by rw [kindOf_cons (by omega)]; rfl) (fin_nil rfl ?_))))
    exact .cons (.refl _) (.cons zAs (.cons zAs (.cons zAs (.cons zAs (.cons zAs (.cons zAs (.cons zAs (.cons zAs (.cons zAs (.cons (.refl _) (.cons (.refl _) (.cons (.refl _) (AsArgs.refl _)))))))))))))

theorem fold11 (k : Int) : ∀ (l pre : List Int), bytesOK l → foldX nx11 (pre, k) l = (pre ++ l, k)
  | [], pre, _ => by simp [foldX]
  | x :: l, pre, h => by
    obtain ⟨hx, hl⟩ := h.cons
    have e : nx11 (pre, k) x = (pre ++ [x], k) := by unfold nx11; rw [wrap_fits (by omega) (by omega)]
    unfold foldX
    rw [e, fold11 k l (pre ++ [x]) hl]
    simp
theorem ok11_all (k : Int) : ∀ (l pre : List Int), pre.length + l.length ≤ 17592186044416 → okX nx11 (fun _ _ => (none : Option Unit)) ok11 (pre, k) l
  | [], pre, _ => trivial
  | x :: l, pre, h => by
    simp only [List.length_cons] at h
    exact ⟨by simp [ok11]; omega, fun _ => ok11_all k l _ (by simp; omega)⟩
theorem get4_rez {r : List Int} (hr : bytesOK r) (hlen : (r.length : Int) < 17592186044416) : Rez (get4 (4 :: r) r) (getR (4 :: r)) := by
  have hk : kindOf (4 :: r) = 4 := kindOf_cons (by omega)
  cases r with
  | nil =>
    rw [getR_no (asks_len (by simp [cand, putB]))]
    exact .asrt (fun h => by simp at h) (.itet (by simp) .no)
  | cons y ds =>
    obtain ⟨hy, hd⟩ := hr.cons
    simp only [List.length_cons] at hlen
    have ec : cand (4 :: y :: ds) = ⟨4, 0, ⟨0, 0, 0, 0, 0, 0⟩, 0, 0, 0, 0, 0, ds⟩ := rfl
    have em : ds.map IntKind.u8.wrap = ds := by
      conv => rhs; rw [← List.map_id ds]
      exact List.map_congr_left fun x hx => wrap8_id (hd x hx)
    have ep : putB (cand (4 :: y :: ds)) = 4 :: IntKind.u8.wrap ds.length :: ds := by
      rw [ec]; simp [putB, em]; decide
    unfold get4
    refine .asrt (fun _ => by simp) ?_
    by_cases hy2 : y = ds.length
    · have hc : asks (4 :: y :: ds) = mayOp (cand (4 :: y :: ds)) := asks_of (by rw [ep, wrap8_id (by omega), hy2])
      refine .itee (by rw [rd_cons0, wrap_fits (by omega) (by omega), wrap_fits (by simp only [List.length_cons]; omega) (by simp only [List.length_cons]; omega), hy2]; simp; omega) (.asrt (by simp only [List.length_cons]; omega) (.asrt ⟨rfl, rfl⟩ (.asrt ?_ ?_)))
      · rw [dp1]
        exact ⟨by omega, by unfold maxI64; omega, ok11_all _ _ _ (by simp; omega)⟩
      · rw [dp1, hk]
        simp only [Int.toNat_zero, List.drop_zero]
        rw [fold11 4 ds [] hd]
        simp only [List.nil_append]
        refine .asrt (by omega) ?_
        unfold getR
        rw [hc, ec]
        by_cases hm : mayOp ⟨4, 0, ⟨0, 0, 0, 0, 0, 0⟩, 0, 0, 0, 0, 0, ds⟩ = true
        · rw [if_pos hm, if_pos rfl]
          refine .itee (by rw [hm]; rfl) (.ret (.tup (.cons (.agg ?_) (.refl _))) rfl)
          exact .cons (.refl _) (.cons zAs (.cons zAs (.cons zAs (.cons zAs (.cons zAs (.cons zAs (.cons zAs (.cons zAs (.cons zAs (.cons zAs (.cons zAs (.cons zAs (AsArgs.refl _)))))))))))))
        · rw [if_neg hm]
          exact .itet (by simp [hm]) .no
    · have hn : asks (4 :: y :: ds) = false := by
        cases hm : mayOp (cand (4 :: y :: ds)) with
        | false => simp [asks, hm]
        | true =>
          have h4 := may_len hm
          rw [ec] at h4
          simp only at h4
          refine asks_no ?_
          rw [ep, wrap8_id (by omega)]
          intro e
          simp only [List.cons.injEq, true_and, and_true] at e
          exact hy2 e.symm
      rw [getR_no hn]
      refine .itet ?_ .no
      rw [rd_cons0, wrap_fits (by omega) (by omega), wrap_fits (by simp only [List.length_cons]; omega) (by simp only [List.length_cons]; omega)]
      simp
      exact .inr hy2
theorem get_rez {b : List Int} (hb : bytesOK b) (hlen : (b.length : Int) < 17592186044416) : Rez (getT b) (getR b) := by
  unfold getT
  cases b with
  | nil =>
    rw [getR_no (by simp [asks])]
    exact .itet (by simp) .no
  | cons x r =>
    obtain ⟨hx, hr⟩ := hb.cons
    simp only [List.length_cons] at hlen
    have hk : kindOf (x :: r) = x := kindOf_cons hx
    refine .itee (by simp only [List.length_cons, beq_eq_false_iff_ne, ne_eq]; omega) (.asrt (by simp only [List.length_cons]; omega) (.asrt (by simp only [List.length_cons]; omega) ?_))
    rw [dp1]
    rw [hk]
    by_cases h0 : x = 0
    · subst h0; exact .itet rfl (get0_rez hr)
    refine .itee (by simp [h0]) ?_
    by_cases h1 : x = 1
    · subst h1; exact .itet rfl (get1_rez hr)
    refine .itee (by simp [h1]) ?_
    by_cases h2 : x = 2
    · subst h2; exact .itet rfl (get2_rez hr)
    refine .itee (by simp [h2]) ?_
    by_cases h3 : x = 3
    · subst h3; exact .itet rfl (get3_rez hr)
    refine .itee (by simp [h3]) ?_
    by_cases h4 : x = 4
    · subst h4; exact .itet rfl (get4_rez hr (by omega))
    refine .itee (by simp [h4]) ?_
    have nm : ∀ o : Fu.Op, o.Kind = x → mayOp o = false := fun o ho => by
      unfold mayOp
      rw [ho]
      have : decide (x ≥ 5) = true := decide_eq_true (by omega)
      simp [this]
    rw [getR_no (by simp [asks, nm (cand (x :: r)) (by simp [cand, h0, h1, h2, h3])])]
    cases r with
    | cons a l => exact fin_no
    | nil =>
      refine (fin_nil rfl ?_).to (by rw [nm _ rfl]; rfl)
      unfold kz
      rw [hk]
      exact .cons (.refl _) (.cons zAs (.cons zAs (.cons zAs (.cons zAs (.cons zAs (.cons zAs (.cons zAs (.cons zAs (.cons zAs (.cons zAs (.cons zAs (.cons zAs (AsArgs.refl _)))))))))))))

theorem con11_valid : ValidCon w31.P 11 con11 := by
  refine con_of (n := 200) w31_good (by kernel_rfl) fun args r h => ?_
  unfold con11 at h
  split at h
  · split at h
    · rename_i b hb
      obtain ⟨⟨h1, h2⟩, h⟩ := h
      obtain ⟨v, h3, h4⟩ := get_rez h1 h2
      have e : r = getR b := by
        unfold getR
        cases ha : asks b with
        | true =>
          rw [ha] at h
          replace h := (Tree.out_ite_true rfl).1 h
          rw [if_pos rfl]
          by_cases hk : (cand b).Kind = 4
          · rw [if_pos hk]; exact ((Tree.out_ite_true (by simp [hk])).1 h).symm
          · rw [if_neg hk]; exact ((Tree.out_ite_false (by simp [hk])).1 h).symm
        | false =>
          rw [ha] at h
          exact ((Tree.out_ite_false rfl).1 h).symm
      rw [e]
      exact ⟨_, v, .cons (.view hb) .nil, h3, .of_eq (f11 b) h4⟩
    · exact h.elim
  · exact h.elim



end Go.Fx
