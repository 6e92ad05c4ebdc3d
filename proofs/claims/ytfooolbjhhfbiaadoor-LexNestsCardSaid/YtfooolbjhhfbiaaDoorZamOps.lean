/-
  The abstract machine, part 5: the operations that need no memory, and those that read, write and make it; what each comes to.
-/
import Derived.Test.YtfooolbjhhfbiaaDoorZamAppend
import Derived.Laws.StructEq
namespace Go.Am
open Go.RowKit (Below)

/-- The type's size in cells. -/
def sizeT (P : Program) (t : TypeId) : Option Nat := (P.info? t).map (·.size)

def aggT (P : Program) (t : TypeId) : Option Bool :=
  match P.underlying t with
  | some (.struct _) => some true
  | some (.array _ _) => some true
  | some _ => some false
  | none => none

def zeroT (P : Program) (t : TypeId) : Option Value :=
  match P.info? t with
  | some i => match i.zero with
    | some z => if closedV 3 z then some z else none
    | none => none
  | none => none

/-- The value of a variable of a type, at a place. -/
def loadA (P : Program) (t : TypeId) (i off : Nat) (h : Heap) : Option Value :=
  match aggT P t with
  | some true => match sizeT P t with
    | some n => (h.cells i off n).map fun vs => .agg vs.toArray
    | none => none
  | some false => h.cell i off
  | none => none

def storeA (P : Program) (t : TypeId) (i off : Nat) (v : Value) (h : Heap) : Option Heap :=
  if sizeT P t = some v.cells.size then h.store i off v.cells.toList else none

theorem storeA_next {P : Program} {t : TypeId} {i off : Nat} {v : Value} {h h' : Heap} (hs : storeA P t i off v h = some h') : h'.next = h.next := by
  unfold storeA at hs
  split at hs
  · exact Heap.store_next hs
  · cases hs

def partA (P : Program) (t : TypeId) (cs : List Value) (off : Nat) : Option Value :=
  match aggT P t with
  | some true => match sizeT P t with
    | some n => some (.agg ((cs.drop off).take n).toArray)
    | none => none
  | some false => cs[off]?
  | none => none

section
variable {G B : Nat} {w0 : World} {ρ : Ren} {h : Heap} {w : World} {P : Program}

theorem sizeT_run {t : TypeId} {n : Nat} (hs : sizeT P t = some n) (w : World) : (sizeOf t).run P w = .ok n w := by
  unfold sizeT at hs
  cases hi : P.info? t with
  | none => simp [hi] at hs
  | some i => simp [hi] at hs; simp [sizeOf, typeInfo, hi, hs]

theorem aggT_run {t : TypeId} {b : Bool} (hs : aggT P t = some b) (w : World) : (isAgg t).run P w = .ok b w := by
  unfold aggT at hs
  split at hs <;> simp at hs
  all_goals (rename_i hu; subst hs; simp [isAgg, run_underlying hu])

theorem zeroT_run {t : TypeId} {z : Value} (hs : zeroT P t = some z) (w : World) : (zeroValue t).run P w = .ok z w ∧ VRel ρ z z := by
  unfold zeroT at hs
  split at hs
  · rename_i i hi
    split at hs
    · rename_i z' hz
      split at hs
      · rename_i hc
        simp at hs; subst hs
        exact ⟨by simp [zeroValue, typeInfo, hi, hz], VRel.closed 3 hc⟩
      · cases hs
    · cases hs
  · cases hs

theorem loadA_sound (R : Rel G B w0 ρ h w) {t : TypeId} {i b base n off : Nat} {v : Value} (hi : ρ i = some (b, base, n)) (hl : loadA P t i off h = some v) :
    ∃ v', (loadVar t ⟨b, base + off, none⟩).run P w = .ok v' w ∧ VRel ρ v v' := by
  unfold loadA at hl
  split at hl
  · rename_i ha
    split at hl
    · rename_i k hk
      cases hc : h.cells i off k with
      | none => simp [hc] at hl
      | some vs =>
        simp [hc] at hl; subst hl
        obtain ⟨hlen, _, vs', hv, hcell⟩ := R.cells hi hc
        refine ⟨.agg vs'.toArray, ?_, VRel.agg_iff.2 (by simpa using hv)⟩
        have := run_loadCells_list (P := P) w ⟨b, base + off, none⟩ vs' (fun j u hu => by rw [addr_add]; exact hcell j u hu)
        rw [show vs'.length = k by rw [← hv.1, hlen]] at this
        simp [loadVar, aggT_run ha, sizeT_run hk, this]
    · cases hl
  · rename_i ha
    obtain ⟨v', h1, h2⟩ := R.cell hi hl
    refine ⟨v', ?_, h2⟩
    simp [loadVar, aggT_run ha, h1]
  · cases hl

theorem storeA_sound (R : Rel G B w0 ρ h w) {t : TypeId} {i b base n off : Nat} {v v' : Value} {h' : Heap} (hi : ρ i = some (b, base, n)) (hl : storeA P t i off v h = some h') (hv : VRel ρ v v') :
    ∃ w', (storeVar t ⟨b, base + off, none⟩ v').run P w = .ok () w' ∧ Rel G B w0 ρ h' w' := by
  unfold storeA at hl
  split at hl
  · rename_i hs
    have hc := hv.cells
    obtain ⟨h1, h2⟩ := R.store (P := P) hi hl hc
    refine ⟨_, ?_, h2⟩
    have hsz : v'.cells.size = v.cells.size := by have := hc.1; simpa using this.symm
    simp [storeVar, sizeT_run hs, hsz, h1]
  · cases hl

theorem partA_sound {t : TypeId} {cs : List Value} {cs' : Array Value} {off : Nat} {v : Value} (hl : partA P t cs off = some v) (hv : LRel ρ cs cs'.toList) (w : World) :
    ∃ v', (part t cs' off).run P w = .ok v' w ∧ VRel ρ v v' := by
  unfold partA at hl
  split at hl
  · rename_i ha
    split at hl
    · rename_i k hk
      simp at hl; subst hl
      refine ⟨.agg (cs'.extract off (off + k)), by simp [part, aggT_run ha, sizeT_run hk], VRel.agg_iff.2 ?_⟩
      have : (cs'.extract off (off + k)).toList = (cs'.toList.drop off).take k := by
        rw [Array.toList_extract, List.extract_eq_take_drop]
        congr 1; omega
      rw [this]
      simpa using (hv.drop off).take k
    · cases hl
  · rename_i ha
    obtain ⟨v', h1, h2⟩ := hv.get hl
    refine ⟨v', ?_, h2⟩
    have : cs'[off]? = some v' := by simpa using h1
    simp [part, aggT_run ha, this]
  · cases hl

/-- A new variable or row. -/
theorem newA_sound (R : Rel G B w0 ρ h w) (t : TypeId) {cs : List Value} {cs' : Array Value} (hv : LRel ρ cs cs'.toList) :
    (newRow t cs').run P w = .ok ⟨w.heap.size, 0, none⟩ (w.alloc (.cells cs' t)) ∧ Rel G B w0 (ρ.upd h.next (w.heap.size, 0, cs'.size)) (h.alloc (.cells false cs)) (w.alloc (.cells cs' t)) := by
  refine ⟨by simp [newRow], R.newRow ((Below.refl _ _).alloc (Nat.le_refl _) _) (by simp) (heap_alloc_new w _) hv fun m v hm => by simpa using hm⟩

end

/-- Whole numbers: an operator's answer; none where Go panics or the operator is none of theirs. -/
def intBin (op : BinOp) (k : IntKind) (a b : Int) : Option Value :=
  match op with
  | .add => some (.int k (k.wrap (a + b)))
  | .sub => some (.int k (k.wrap (a - b)))
  | .mul => some (.int k (k.wrap (a * b)))
  | .quo => if b = 0 then none else some (.int k (k.wrap (a.tdiv b)))
  | .rem => if b = 0 then none else some (.int k (a.tmod b))
  | .and => some (.int k (k.wrap (BitVec.ofInt k.bits a &&& BitVec.ofInt k.bits b).toNat))
  | .or => some (.int k (k.wrap (BitVec.ofInt k.bits a ||| BitVec.ofInt k.bits b).toNat))
  | .xor => some (.int k (k.wrap (BitVec.ofInt k.bits a ^^^ BitVec.ofInt k.bits b).toNat))
  | .andNot => some (.int k (k.wrap (BitVec.ofInt k.bits a &&& ~~~ BitVec.ofInt k.bits b).toNat))
  | .eql => some (.bool (a == b))
  | .neq => some (.bool (a != b))
  | .lss => some (.bool (a < b))
  | .leq => some (.bool (a ≤ b))
  | .gtr => some (.bool (a > b))
  | .geq => some (.bool (a ≥ b))
  | _ => none

def strBin (op : BinOp) (x y : ByteArray) : Option Value :=
  match op with
  | .add => if x.size + y.size ≤ 140737488355328 then some (.string (x ++ y)) else none
  | .eql => some (.bool (x.toList == y.toList))
  | .neq => some (.bool !(x.toList == y.toList))
  | .lss => some (.bool (Op.bytesLess x.toList y.toList))
  | .leq => some (.bool (Op.bytesLess x.toList y.toList || x.toList == y.toList))
  | .gtr => some (.bool !(Op.bytesLess x.toList y.toList || x.toList == y.toList))
  | .geq => some (.bool !(Op.bytesLess x.toList y.toList))
  | _ => none

/-- '==' of two values. -/
def eqA (P : Program) : Nat → TypeId → Value → Value → Option Bool
  | 0, _, _, _ => none
  | d + 1, t, x, y =>
    match P.underlying t, x, y with
    | some .bool, .bool a, .bool b => some (a == b)
    | some (.int _), .int k a, .int k' b => if k = k' then some (a == b) else none
    | some .string, .string a, .string b => some (a == b)
    | some (.pointer _), .pointer none, .pointer b => some b.isNone
    | some (.pointer _), .pointer (some _), .pointer none => some false
    | some (.interface _), .nilIface, .nilIface => some true
    | some (.interface _), .nilIface, .iface _ _ => some false
    | some (.interface _), .iface _ _, .nilIface => some false
    | some (.interface _), .iface tx vx, .iface ty vy =>
      if tx ≠ ty then some false else match P.info? tx with
        | some i => if i.comparable then eqA P d tx vx vy else none
        | none => none
    | some (.struct fields), .agg xs, .agg ys => if P.stoodInHeld t then none else eqFs (eqA P d) fields.toList xs.toList ys.toList
    | some (.slice _), .slice none _ _, .slice b _ _ => some b.isNone
    | some (.slice _), .slice (some _) _ _, .slice none _ _ => some false
    | some (.map _ _), .map none, .map b => some b.isNone
    | some (.map _ _), .map (some _), .map none => some false
    | some (.func _ _ _), .nilFunc, .nilFunc => some true
    | some (.func _ _ _), .nilFunc, .func _ _ _ => some false
    | some (.func _ _ _), .func _ _ _, .nilFunc => some false
    | _, _, _ => none
where
  eqFs (eq : TypeId → Value → Value → Option Bool) : List Field → List Value → List Value → Option Bool
    | [], _, _ => some true
    | f :: fs, xs, ys =>
      if f.name = "_" then none else
      match partA P f.type xs f.offset, partA P f.type ys f.offset with
      | some a, some b => match eq f.type a b with
        | some true => eqFs eq fs xs ys
        | some false => some false
        | none => none
      | _, _ => none

def Operand.isConst' : Operand → Bool
  | .const _ => true
  | _ => false

/-- May the two sides of '==' be asked at all? -/
def eqAskBoth (P : Program) (t : TypeId) (x y : Operand) : Value → Value → Bool
  | .nilIface, .nilIface => Operand.isConst' x || Operand.isConst' y
  | .agg _, .agg _ => !P.eqGuardType P.depth t
  | _, _ => true

def isEq : BinOp → Bool
  | .eql | .neq => true
  | _ => false

def eqAsk (P : Program) (op : BinOp) (t : TypeId) (x y : Operand) (a b : Value) : Bool := !isEq op || eqAskBoth P t x y a b

def binA (P : Program) (op : BinOp) (t : TypeId) (a b : Value) : Option Value :=
  match a, b with
  | .int k n, .int k' m =>
    match op with
    | .shl => if m < 0 then none else some (.int k (k.wrap (n * 2 ^ (min m.toNat k.bits))))
    | .shr => if m < 0 then none else some (.int k (n.fdiv (2 ^ (min m.toNat k.bits))))
    | _ => if k = k' then intBin op k n m else none
  | .string x, .string y => strBin op x y
  | x, y => match op with
    | .eql => (eqA P 5 t x y).map .bool
    | .neq => (eqA P 5 t x y).map fun b => .bool !b
    | _ => none

section
variable {G B : Nat} {w0 : World} {ρ : Ren} {h : Heap} {w : World} {P : Program}

theorem intBin_sound {op : BinOp} {t : TypeId} {k : IntKind} {a b : Int} {v : Value} (hb : intBin op k a b = some v) (w : World) : (binOp op t (.int k a) (.int k b)).run P w = .ok v w := by
  cases op <;> simp only [intBin] at hb <;> first
    | (cases hb; done)
    | (simp at hb; subst hb; simp [binOp, Op.intArith, Op.intCmp, Op.intBits]; done)
    | (split at hb <;> simp at hb; subst hb; rename_i hz; simp [binOp, Op.intDiv, hz]; done)

theorem strBin_sound {op : BinOp} {t : TypeId} {a b : ByteArray} {v : Value} (hb : strBin op a b = some v) (w : World) : (binOp op t (.string a) (.string b)).run P w = .ok v w := by
  cases op <;> simp only [strBin] at hb <;> first
    | (cases hb; done)
    | (simp at hb; subst hb; simp [binOp, Op.stringOp]; done)
    | (split at hb <;> simp at hb; subst hb; rename_i hz
       simp [binOp, Op.stringOp]; omega)


theorem fieldsOf_eq {t : TypeId} {fs : Array Field} (hu : P.underlying t = some (.struct fs)) : P.fieldsOf t = fs := by
  simp [Program.fieldsOf, hu]

theorem eqA_sound : ∀ (d D : Nat) (t : TypeId) (x y x' y' : Value) (r : Bool), d ≤ D → eqA P d t x y = some r → VRel ρ x x' → VRel ρ y y' → ∀ w : World, (Op.equalIn D t x' y').run P w = .ok r w := by
  intro d
  induction d with
  | zero => intro D t x y x' y' r _ he; simp [eqA] at he
  | succ d ih =>
    intro D t x y x' y' r hD he hx hy w
    obtain ⟨D, rfl⟩ : ∃ k, D = k + 1 := ⟨D - 1, by omega⟩
    have hfs : ∀ (fs : List Field) (xs ys : List Value) (xs' ys' : Array Value) (r : Bool), eqA.eqFs P (eqA P d) fs xs ys = some r → LRel ρ xs xs'.toList → LRel ρ ys ys'.toList →
        ∀ w : World, (Op.eqFields D xs' ys' fs).run P w = .ok r w := by
      intro fs
      induction fs with
      | nil => intro xs ys xs' ys' r he _ _ w; simp [eqA.eqFs] at he; subst he; rfl
      | cons f fs ihf =>
        intro xs ys xs' ys' r he hxs hys w
        unfold eqA.eqFs at he
        split at he
        · cases he
        · rename_i hn
          split at he
          · rename_i a b hpa hpb
            obtain ⟨a', ra, va⟩ := partA_sound (ρ := ρ) hpa hxs w
            obtain ⟨b', rb, vb⟩ := partA_sound (ρ := ρ) hpb hys w
            split at he
            · rename_i ht
              have hr := ih D f.type a b a' b' true (by omega) ht va vb w
              have hrest := ihf xs ys xs' ys' r he hxs hys w
              simp [Op.eqFields, hn, ra, rb, hr, hrest]
            · rename_i ht
              have hr := ih D f.type a b a' b' false (by omega) ht va vb w
              simp at he; subst he
              simp [Op.eqFields, hn, ra, rb, hr]
            · cases he
          · cases he
    unfold eqA at he
    split at he
    case h_1 => rename_i hu; cases hx; cases hy; simp at he; subst he; simp [Op.equalIn, run_underlying hu]
    case h_2 =>
      rename_i hu; cases hx; cases hy
      split at he <;> simp at he
      rename_i hk; subst he hk
      simp [Op.equalIn, run_underlying hu]
    case h_3 => rename_i hu; cases hx; cases hy; simp at he; subst he; simp [Op.equalIn, run_underlying hu]
    case h_4 =>
      rename_i hu; simp at he; subst he
      cases hx
      cases hy <;> simp [Op.equalIn, run_underlying hu]
    case h_5 =>
      rename_i hu; simp at he; subst he
      cases hy
      cases hx; simp [Op.equalIn, run_underlying hu]
    case h_6 => rename_i hu; cases hx; cases hy; simp at he; subst he; simp [Op.equalIn, run_underlying hu]
    case h_7 => rename_i hu; cases hx; cases hy; simp at he; subst he; simp [Op.equalIn, run_underlying hu]
    case h_8 => rename_i hu; cases hx; cases hy; simp at he; subst he; simp [Op.equalIn, run_underlying hu]
    case h_9 =>
      rename_i tx vx ty vy hu
      cases hx with
      | iface hvx => cases hy with
        | iface hvy =>
          split at he
          · rename_i hne
            simp at he; subst he
            simp [Op.equalIn, run_underlying hu, hne]
          · rename_i hne
            simp at hne; subst hne
            split at he
            · rename_i i hi
              split at he
              · rename_i hc
                have := ih D tx vx vy _ _ r (by omega) he hvx hvy w
                simp [Op.equalIn, run_underlying hu, typeInfo, hi, hc, this]
              · cases he
            · cases he
    case h_10 =>
      rename_i fields xs ys hu
      split at he
      · cases he
      · rename_i hst
        cases hx with
        | agg h1 h2 => cases hy with
          | agg h3 h4 =>
            have hf := fieldsOf_eq hu
            rw [run_equalIn_struct w D t _ _ (by rw [hf]; exact hu) (by simpa using hst), hf]
            exact hfs _ _ _ _ _ _ he (VRel.agg_iff.1 (.agg h1 h2)) (VRel.agg_iff.1 (.agg h3 h4)) w
    case h_11 => rename_i hu; simp at he; subst he; cases hx; cases hy <;> simp [Op.equalIn, run_underlying hu]
    case h_12 => rename_i hu; simp at he; subst he; cases hx; cases hy; simp [Op.equalIn, run_underlying hu]
    case h_13 => rename_i hu; simp at he; subst he; cases hx; cases hy <;> simp [Op.equalIn, run_underlying hu]
    case h_14 => rename_i hu; simp at he; subst he; cases hx; cases hy; simp [Op.equalIn, run_underlying hu]
    case h_15 => rename_i hu; cases hx; cases hy; simp at he; subst he; simp [Op.equalIn, run_underlying hu]
    case h_16 => rename_i hu; cases hx; cases hy; simp at he; subst he; simp [Op.equalIn, run_underlying hu]
    case h_17 => rename_i hu; cases hx; cases hy; simp at he; subst he; simp [Op.equalIn, run_underlying hu]
    case h_18 => cases he

theorem eqAsk_sound {op : BinOp} {t : TypeId} {x y : Operand} {a b a' b' : Value} (he : eqAsk P op t x y a b = true) (ha : VRel ρ a a') (hb : VRel ρ b b') (w : World) :
    (eqGuard op t x y a' b').run P w = .ok () w := by
  by_cases hop : isEq op = true
  · have he2 : eqAskBoth P t x y a b = true := by simpa [eqAsk, hop] using he
    have hop2 : op = .eql ∨ op = .neq := by cases op <;> simp [isEq] at hop <;> simp
    cases ha <;> cases hb <;> first
      | (exact run_eqGuard_agg w op t x y _ _ (by simpa [eqAskBoth] using he2))
      | (rcases hop2 with rfl | rfl <;> rfl)
      | skip
    cases x <;> cases y <;> simp [eqAskBoth, Operand.isConst'] at he2 <;> (rcases hop2 with rfl | rfl <;> rfl)
  · cases op <;> simp [isEq] at hop <;> rfl

theorem binA_sound {op : BinOp} {t : TypeId} {a b a' b' v : Value} (he : binA P op t a b = some v) (ha : VRel ρ a a') (hb : VRel ρ b b') (w : World) :
    (binOp op t a' b').run P w = .ok v w ∧ VRel ρ v v := by
  have hpure : ∀ {v : Value}, (∃ b, v = .bool b) ∨ (∃ k n, v = .int k n) ∨ (∃ s, v = .string s) → VRel ρ v v := by
    rintro v (⟨b, rfl⟩ | ⟨k, n, rfl⟩ | ⟨s, rfl⟩)
    · exact .bool _
    · exact .int _ _
    · exact .string _
  unfold binA at he
  split at he
  · rename_i k n k' m
    cases ha; cases hb
    split at he
    · split at he
      · cases he
      · rename_i hm
        simp at he; subst he
        exact ⟨by simp [binOp, Op.shift, hm], .int _ _⟩
    · split at he
      · cases he
      · rename_i hm
        simp at he; subst he
        exact ⟨by simp [binOp, Op.shift, hm], .int _ _⟩
    · split at he
      · rename_i hk
        subst hk
        refine ⟨intBin_sound he w, hpure ?_⟩
        cases op <;> simp only [intBin] at he <;> first
          | (cases he; done)
          | (simp at he; subst he; first | exact .inl ⟨_, rfl⟩ | exact .inr (.inl ⟨_, _, rfl⟩))
          | (split at he <;> simp at he; subst he; exact .inr (.inl ⟨_, _, rfl⟩))
      · cases he
  · cases ha; cases hb
    refine ⟨strBin_sound he w, hpure ?_⟩
    cases op <;> simp only [strBin] at he <;> first
      | (cases he; done)
      | (simp at he; subst he; first | exact .inl ⟨_, rfl⟩ | exact .inr (.inr ⟨_, rfl⟩))
      | (split at he <;> simp at he; subst he; exact .inr (.inr ⟨_, rfl⟩))
  · rename_i hni hns
    split at he
    · cases hq : eqA P 5 t a b with
      | none => simp [hq] at he
      | some r =>
        simp [hq] at he; subst he
        have hr := eqA_sound 5 Op.maxDepth t a b a' b' r (by decide) hq ha hb w
        refine ⟨?_, .bool _⟩
        cases ha <;> cases hb <;> first
          | (exfalso; exact hni _ _ _ _ rfl rfl)
          | (exfalso; exact hns _ _ rfl rfl)
          | (simp [binOp, Op.equal, hr]; done)
    · cases hq : eqA P 5 t a b with
      | none => simp [hq] at he
      | some r =>
        simp [hq] at he; subst he
        have hr := eqA_sound 5 Op.maxDepth t a b a' b' r (by decide) hq ha hb w
        refine ⟨?_, .bool _⟩
        cases ha <;> cases hb <;> first
          | (exfalso; exact hni _ _ _ _ rfl rfl)
          | (exfalso; exact hns _ _ rfl rfl)
          | (simp [binOp, Op.equal, hr]; done)
    · cases he

end
end Go.Am
