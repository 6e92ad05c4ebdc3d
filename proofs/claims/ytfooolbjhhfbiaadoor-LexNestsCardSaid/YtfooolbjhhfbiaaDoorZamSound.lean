/-
  The abstract machine, part 7: what an operation comes to, the model's operation comes to.
-/
import Derived.Test.YtfooolbjhhfbiaaDoorZamStep
namespace Go.Am
open Go.RowKit (Below)

def EnvRel (ρ : Ren) (env : Env) (a : Act) : Prop := ∀ t v, env t = some v → VRel ρ v (a.tmps.getD t undef)

/-- What the model's operation comes to, beside ours. -/
def Out (P : Program) (G B : Nat) (w0 : World) (ρ : Ren) (h : Heap) (w : World) (r : Result Next) : ANext → Prop
  | .val v h' => ∃ v' w' ρ', r = .ok (.value v') w' ∧ Ext ρ h ρ' h' ∧ Rel G B w0 ρ' h' w' ∧ VRel ρ' v v'
  | .skip h' => ∃ w' ρ', r = .ok .skip w' ∧ Ext ρ h ρ' h' ∧ Rel G B w0 ρ' h' w'
  | .enter f args => (P.funcs[f]?).any (·.body.isSome) = true ∧ ∃ args', r = .ok (.enter f args') w ∧ LRel ρ args args'.toList
  | .panic v => ∃ v', r = .halt (.panic v') w ∧ VRel ρ v v'

section
variable {G B : Nat} {w0 : World} {ρ : Ren} {h : Heap} {w : World} {P : Program} {env : Env} {a : Act}

theorem Out.same (R : Rel G B w0 ρ h w) {v v' : Value} (hv : VRel ρ v v') {r : Result Next} (hr : r = .ok (.value v') w) : Out P G B w0 ρ h w r (.val v h) :=
  ⟨v', w, ρ, hr, Ext.refl _ _, R, hv⟩

theorem evalA_sound (R : Rel G B w0 ρ h w) (he : EnvRel ρ env a) {x : Operand} {v : Value} (hx : evalA G env x = some v) : VRel ρ v (a.eval x) := by
  cases x with
  | tmp t => exact he t v hx
  | const c =>
    simp only [evalA] at hx
    split at hx
    · rename_i hc; cases hx; exact VRel.closed 3 hc
    · cases hx
  | global g =>
    simp only [evalA] at hx
    split at hx
    · rename_i hg
      cases hx
      obtain ⟨n, hn⟩ := R.glob g hg
      have := VRel.ptr (off := 0) hn
      simpa [Act.eval] using this
    · cases hx
  | func f => simp only [evalA] at hx; cases hx; exact VRel.func_iff.2 ⟨.nil _, .nil _⟩

theorem evalAll_sound (R : Rel G B w0 ρ h w) (he : EnvRel ρ env a) : ∀ {xs : List Operand} {vs : List Value}, evalAll G env xs = some vs → LRel ρ vs (xs.map a.eval)
  | [], vs, hx => by simp [evalAll] at hx; subst hx; exact .nil _
  | x :: xs, vs, hx => by
    unfold evalAll at hx
    split at hx
    · rename_i v vs' h1 h2
      cases hx
      exact .cons (evalA_sound R he h1) (evalAll_sound R he h2)
    · cases hx

/-- Numbered values. -/
def PRel (ρ : Ren) : List (Nat × Value) → List (Nat × Value) → Prop
  | [], [] => True
  | (i, v) :: l, (j, v') :: l' => i = j ∧ VRel ρ v v' ∧ PRel ρ l l'
  | _, _ => False

theorem evalParts_sound (R : Rel G B w0 ρ h w) (he : EnvRel ρ env a) : ∀ {xs : List (Nat × Operand)} {vs : List (Nat × Value)}, evalParts G env xs = some vs → PRel ρ vs (xs.map fun (i, x) => (i, a.eval x))
  | [], vs, hx => by simp [evalParts] at hx; subst hx; trivial
  | (i, x) :: xs, vs, hx => by
    unfold evalParts at hx
    split at hx
    · rename_i v vs' h1 h2
      cases hx
      exact ⟨rfl, evalA_sound R he h1, evalParts_sound R he h2⟩
    · cases hx

theorem LRel.setMany {vs vs' : List Value} (hv : LRel ρ vs vs') : ∀ {cs cs' : List Value} (off : Nat), LRel ρ cs cs' → LRel ρ (setMany cs off vs) (setMany cs' off vs') := by
  induction vs generalizing vs' with
  | nil => intro cs cs' off hc; obtain rfl := hv.nil_inv; exact hc
  | cons v vs ih =>
    intro cs cs' off hc
    obtain ⟨v', l, rfl, h1, h2⟩ := hv.cons_inv
    exact ih h2 (off + 1) (hc.set off h1)

theorem foldl_setMany (off : Nat) : ∀ (l : List Value) (k : Nat) (A : Array Value),
    ((l.zipIdx k).foldl (fun cs (c, j) => cs.setIfInBounds (off + j) c) A).toList = setMany A.toList (off + k) l
  | [], k, A => rfl
  | v :: l, k, A => by
    simp only [List.zipIdx_cons, List.foldl_cons, setMany]
    rw [foldl_setMany off l (k + 1)]
    rw [Array.toList_setIfInBounds]
    rw [Nat.add_assoc]

theorem fillA_sound {place place' : Nat → Option (Nat × Nat)} (hp : ∀ i x, place i = some x → place' i = some x) : ∀ {parts parts' : List (Nat × Value)} {cs : List Value} {cs' : Array Value} {out : List Value},
    PRel ρ parts parts' → LRel ρ cs cs'.toList → fillA place cs parts = some out → ∃ out', Instr.fill place' cs' parts' = some out' ∧ LRel ρ out out'.toList
  | [], [], cs, cs', out, _, hc, hf => by simp [fillA] at hf; subst hf; exact ⟨cs', rfl, hc⟩
  | (i, v) :: parts, (j, v') :: parts', cs, cs', out, hpr, hc, hf => by
    obtain ⟨rfl, hv, hrest⟩ := hpr
    unfold fillA at hf
    split at hf
    · cases hf
    · rename_i off size hpl
      split at hf
      · cases hf
      · rename_i hcond
        have hvc := hv.cells
        have hsz : v'.cells.size = v.cells.size := by have := hvc.1; simpa using this.symm
        have hcs : cs'.size = cs.length := by have := hc.1; simpa using this.symm
        have hcs2 : LRel ρ (setMany cs off v.cells.toList) ((v'.cells.zipIdx.foldl (fun cs (c, j) => cs.setIfInBounds (off + j) c) cs')).toList := by
          have e : v'.cells.zipIdx.foldl (fun cs (c, j) => cs.setIfInBounds (off + j) c) cs' = (v'.cells.toList.zipIdx 0).foldl (fun cs (c, j) => cs.setIfInBounds (off + j) c) cs' := by
            rw [← Array.foldl_toList, Array.toList_zipIdx]
          rw [e, foldl_setMany off v'.cells.toList 0 cs']
          exact hvc.setMany _ hc
        obtain ⟨out', h1, h2⟩ := fillA_sound hp hrest hcs2 hf
        refine ⟨out', ?_, h2⟩
        have hc2 : ¬ (v'.cells.size ≠ size ∨ off + v'.cells.size > cs'.size) := by simpa [hsz, hcs] using hcond
        simp only [Instr.fill, hp _ _ hpl, Bool.or_eq_true, decide_eq_true_eq, hc2, if_false]
        simpa using h1

theorem placesA_sound : ∀ {fs : List Field} {pl : List (Nat × Nat)}, placesA P fs = some pl → ∀ w : World, (fs.mapM fun (f : Field) => (do pure (f.offset, ← sizeOf f.type) : Sem (Nat × Nat))).run P w = .ok pl w
  | [], pl, hp, w => by simp [placesA] at hp; subst hp; rfl
  | f :: fs, pl, hp, w => by
    unfold placesA at hp
    split at hp
    · rename_i n l h1 h2
      cases hp
      have ih := placesA_sound h2 w
      rw [List.mapM_cons]
      simp only [Sem.run_bind, sizeT_run h1, Result.andThen_ok, Sem.run_pure, ih]
    · cases hp

theorem buildA_sound {t : TypeId} {parts parts' : List (Nat × Value)} {v : Value} (hb : buildA P t parts = some v) (hp : PRel ρ parts parts') (w : World) :
    ∃ v', (Instr.build t parts'.toArray).run P w = .ok v' w ∧ VRel ρ v v' := by
  unfold buildA at hb
  split at hb
  · rename_i z fields hz hu
    obtain ⟨hzr, hzc⟩ := zeroT_run (ρ := ρ) hz w
    split at hb
    · rename_i pl hpl
      cases hf : fillA (fun i => pl[i]?) z.cells.toList parts with
      | none => simp [hf] at hb
      | some cs =>
        simp [hf] at hb; subst hb
        obtain ⟨out', h1, h2⟩ := fillA_sound (place' := fun i => pl.toArray[i]?) (fun i x hx => by simpa using hx) hp hzc.cells hf
        have hm : (fields.mapM fun (f : Field) => (do pure (f.offset, ← sizeOf f.type) : Sem (Nat × Nat))).run P w = .ok pl.toArray w := by
          rw [Array.mapM_eq_mapM_toList, Sem.run_map, placesA_sound hpl w]; rfl
        refine ⟨.agg out', ?_, VRel.agg_iff.2 (by simpa using h2)⟩
        simp only [Instr.build, Sem.run_bind, hzr, Result.andThen_ok, run_underlying hu, hm]
        simp at h1
        simp [h1]
    · cases hb
  · rename_i z n0 e hz hu
    obtain ⟨hzr, hzc⟩ := zeroT_run (ρ := ρ) hz w
    split at hb
    · rename_i n hn
      cases hf : fillA (fun i => some (i * n, n)) z.cells.toList parts with
      | none => simp [hf] at hb
      | some cs =>
        simp [hf] at hb; subst hb
        obtain ⟨out', h1, h2⟩ := fillA_sound (fun i x hx => hx) hp hzc.cells hf
        refine ⟨.agg out', ?_, VRel.agg_iff.2 (by simpa using h2)⟩
        simp only [Instr.build, Sem.run_bind, hzr, Result.andThen_ok, run_underlying hu, sizeT_run hn]
        simp [h1]
    · cases hb
  · cases hb

theorem zerosA_length (z : Value) (k : Nat) : (zerosA z k).length = k * z.cells.size := by
  induction k with
  | zero => simp [zerosA]
  | succ k ih => simp [zerosA, ih, Nat.add_mul]; omega

theorem zerosA_get (z : Value) (hz : 0 < z.cells.size) : ∀ (k m : Nat), m < k * z.cells.size → (zerosA z k)[m]? = some z.cells[m % z.cells.size]!
  | 0, m, hm => by simp at hm
  | k + 1, m, hm => by
    rw [zerosA]
    by_cases h1 : m < z.cells.size
    · rw [List.getElem?_append_left (by simpa using h1), Nat.mod_eq_of_lt h1]
      simp [h1]
    · rw [List.getElem?_append_right (by simp; omega)]
      have hm2 : m - z.cells.size < k * z.cells.size := by rw [Nat.add_mul] at hm; omega
      have := zerosA_get z hz k (m - z.cells.size) hm2
      simp only [Array.length_toList]
      rw [this]
      congr 2
      exact (Nat.mod_eq_sub_mod (by omega)).symm

theorem zerosA_rel {z : Value} (hz : 0 < z.cells.size) (hc : VRel ρ z z) (k : Nat) : LRel ρ (zerosA z k) ((Array.range (k * z.cells.size)).map fun i => z.cells[i % z.cells.size]!).toList := by
  refine ⟨by rw [zerosA_length]; simp, fun j v v' hv hv' => ?_⟩
  have hj : j < k * z.cells.size := by
    rcases Nat.lt_or_ge j (k * z.cells.size) with h | h
    · exact h
    · rw [List.getElem?_eq_none (by rw [zerosA_length]; exact h)] at hv; cases hv
  rw [zerosA_get z hz k j hj] at hv
  simp [hj] at hv'
  cases hv; subst hv'
  have hm : j % z.cells.size < z.cells.size := Nat.mod_lt _ hz
  have := hc.cells.2 (j % z.cells.size) z.cells[j % z.cells.size] z.cells[j % z.cells.size] (by simp [hm]) (by simp [hm])
  simpa [hm] using this

theorem fillA_length {place : Nat → Option (Nat × Nat)} : ∀ {parts : List (Nat × Value)} {c0 cs : List Value}, fillA place c0 parts = some cs → cs.length = c0.length
  | [], c0, cs, hf => by simp [fillA] at hf; rw [hf]
  | (i, v) :: ps, c0, cs, hf => by
    simp only [fillA] at hf
    split at hf
    · cases hf
    · split at hf
      · cases hf
      · rw [fillA_length hf, setMany_length]

theorem buildSliceA_core {t : TypeId} {len : Nat} {parts parts' : List (Nat × Value)} {v : Value} {h' : Heap} (hb : buildSliceA P t len parts h = some (v, h')) (hp : PRel ρ parts parts') :
    ∃ n cs cs' e, v = .slice (some ⟨h.next, 0, none⟩) len n ∧ h' = h.alloc (.cells false cs) ∧ LRel ρ cs cs'.toList ∧ cs'.size = len * n ∧
      ∀ w : World, (Instr.buildSlice t len parts'.toArray).run P w = .ok (.slice (some ⟨w.heap.size, 0, none⟩) len len) (w.alloc (.cells cs' e)) := by
  unfold buildSliceA at hb
  split at hb
  · rename_i e hu
    split at hb
    · rename_i n z hn hz
      split at hb
      · rename_i hc
        simp only [Bool.and_eq_true, decide_eq_true_eq] at hc
        obtain ⟨⟨hzs, hn0⟩, hsm⟩ := hc
        have hzc : VRel ρ z z := (zeroT_run (ρ := ρ) hz default).2
        cases hf : fillA (fun i => some (i * n, n)) (zerosA z len) parts with
        | none => simp [hf] at hb
        | some cs =>
          simp only [hf, Option.map_some, Option.some.injEq, Prod.mk.injEq] at hb
          obtain ⟨rfl, rfl⟩ := hb
          have hzz := zerosA_rel (ρ := ρ) (z := z) (by omega) hzc len
          rw [hzs] at hzz
          obtain ⟨out', h1, h2⟩ := fillA_sound (fun i x hx => hx) hp hzz hf
          have hlen : out'.size = len * n := by
            have e1 := h2.1
            have e2 := fillA_length hf
            rw [zerosA_length, hzs] at e2
            simp at e1
            omega
          refine ⟨n, cs, out', e, rfl, rfl, h2, hlen, fun w => ?_⟩
          have hzr := (zeroT_run (P := P) (ρ := ρ) hz w).1
          have hrun : (newRow e out').run P w = .ok ⟨w.heap.size, 0, none⟩ (w.alloc (.cells out' e)) := by simp [newRow]
          have hsm' : ¬ (16777216 < len * n) := by omega
          by_cases h0 : len = 0
          · subst h0
            have e0 : Array.range (0 * n) = #[] := by rw [Nat.zero_mul]; rfl
            rw [e0] at h1
            simp at h1
            have e1 : Array.range 0 = #[] := rfl
            simp [Instr.buildSlice, run_underlying hu, sizeT_run hn, e1, h1, newRow]
          · have hn1 : n ≠ 0 := by omega
            subst hzs
            have hp0 : ¬ (len * z.cells.size = 0) := fun e => by
              rcases Nat.mul_eq_zero.1 e with h | h
              · exact h0 h
              · exact hn1 h
            simp [Instr.buildSlice, run_underlying hu, sizeT_run hn, hsm', hp0, hzr, h1, newRow]
      · cases hb
    · cases hb
  · cases hb

theorem buildSliceA_sound (R : Rel G B w0 ρ h w) {t : TypeId} {len : Nat} {parts parts' : List (Nat × Value)} {v : Value} {h' : Heap} (hb : buildSliceA P t len parts h = some (v, h')) (hp : PRel ρ parts parts') :
    ∃ v' w' ρ', (Instr.buildSlice t len parts'.toArray).run P w = .ok v' w' ∧ Ext ρ h ρ' h' ∧ Rel G B w0 ρ' h' w' ∧ VRel ρ' v v' := by
  obtain ⟨n, cs, cs', e, rfl, rfl, h2, hsz, hrun⟩ := buildSliceA_core hb hp
  obtain ⟨_, hR⟩ := newA_sound (P := P) R e h2
  exact ⟨_, _, _, hrun w, Ext.upd _ _ _ _, hR, .slice (Nat.le_refl _) (.inr ⟨0, cs'.size, by simp [Ren.upd], by simp, by omega⟩)⟩

theorem unA_sound {op : UnOp} {x x' v : Value} (hu : unA op x = some v) (hx : VRel ρ x x') (w : World) : (Op.unary op x').run P w = .ok v w ∧ VRel ρ v v := by
  unfold unA at hu
  split at hu <;> simp at hu <;> subst hu <;> cases hx
  · exact ⟨by simp [Op.unary, Op.intArith], .int _ _⟩
  · exact ⟨by simp [Op.unary], .bool _⟩
  · exact ⟨by simp [Op.unary, Op.intBits], .int _ _⟩

theorem evalAll_head {lo : Option Operand} {l : List Value} (R : Rel G B w0 ρ h w) (he : EnvRel ρ env a) (hl : evalAll G env lo.toList = some l) :
    match l.head?, lo.map a.eval with
    | none, none => True
    | some v, some v' => VRel ρ v v'
    | _, _ => False := by
  have := evalAll_sound R he hl
  cases lo with
  | none => simp at this; have := this.1; simp at this; subst this; trivial
  | some x =>
    simp at this
    cases l with
    | nil => have := this.1; simp at this
    | cons v r =>
      obtain ⟨v', l', e, h1, h2⟩ := this.cons_inv
      simp at e
      obtain ⟨rfl, rfl⟩ := e
      exact h1

/-- Two bounds that are both there or both not. -/
def BRel (ρ : Ren) (x y : Option Value) : Prop :=
  match x, y with
  | none, none => True
  | some v, some v' => VRel ρ v v'
  | _, _ => False

theorem boundA_sound {limit d k : Nat} {x y : Option Value} (hb : boundA limit x d = some k) (hr : BRel ρ x y) :
    (y = none ∧ k = d) ∨ (∃ q, y = some (.int q k) ∧ k ≤ limit) := by
  unfold boundA at hb
  split at hb
  · cases y with
    | none => simp at hb; exact .inl ⟨rfl, hb.symm⟩
    | some _ => exact hr.elim
  · rename_i q i
    split at hb
    · rename_i hc
      simp at hb hc
      cases y with
      | none => exact hr.elim
      | some v' =>
        cases hr
        refine .inr ⟨q, ?_, by omega⟩
        rw [← hb]
        congr 2
        omega
    · cases hb
  · cases hb

theorem run_sliceBounds {isSlice : Bool} {len cap l hh : Nat} {lo hi : Option Value} (hhi : (hi = none ∧ hh = len) ∨ (∃ q, hi = some (.int q hh) ∧ hh ≤ cap)) (hlo : (lo = none ∧ l = 0) ∨ (∃ q, lo = some (.int q l) ∧ l ≤ hh)) (w : World) :
    (Instr.sliceBounds isSlice len cap lo hi none).run P w = .ok (l, hh, cap) w := by
  rcases hhi with ⟨rfl, rfl⟩ | ⟨q, rfl, h1⟩ <;> rcases hlo with ⟨rfl, rfl⟩ | ⟨q', rfl, h2⟩
  · simp [Instr.sliceBounds]
  · simp [Instr.sliceBounds, Instr.sliceBound, asIntOf, h2]
  · simp [Instr.sliceBounds, Instr.sliceBound, asIntOf, h1]
  · simp [Instr.sliceBounds, Instr.sliceBound, asIntOf, h1, h2]

theorem sliceA_sound {t : TypeId} {x x' v : Value} {lo hi lo' hi' : Option Value} (hs : sliceA P t x lo hi = some v) (hx : VRel ρ x x') (hl : BRel ρ lo lo') (hh : BRel ρ hi hi') (w : World) :
    ∃ v', (Instr.sliceAt t x' lo' hi' none).run P w = .ok v' w ∧ VRel ρ v v' := by
  unfold sliceA at hs
  split at hs
  · rename_i s hu
    cases hx
    split at hs
    · rename_i hk hbh
      split at hs
      · rename_i l hbl
        simp at hs; subst hs
        have h1 := boundA_sound hbh hh
        have h2 := boundA_sound hbl hl
        have hb := run_sliceBounds (P := P) (isSlice := false) (len := s.size) (cap := s.size) h1 h2 w
        exact ⟨_, by simp [Instr.sliceAt, run_underlying hu, Instr.slice, hb], .string _⟩
      · cases hs
    · cases hs
  · rename_i e a0 len es hu
    split at hs
    · rename_i hk hbh
      split at hs
      · rename_i l hbl
        have h1 := boundA_sound hbh hh
        have h2 := boundA_sound hbl hl
        have hkl : hk ≤ len := by rcases h1 with ⟨_, h⟩ | ⟨_, _, h⟩ <;> omega
        have hlk : l ≤ hk := by rcases h2 with ⟨_, h⟩ | ⟨_, _, h⟩ <;> omega
        split at hs
        · split at hs
          · rename_i h0
            simp only [Bool.and_eq_true, decide_eq_true_eq] at h0
            obtain ⟨h0, hsome⟩ := h0
            simp at hs; subst hs
            cases hx
            have hb := run_sliceBounds (P := P) (isSlice := true) (len := 0) (cap := 0) (h1.imp id fun ⟨q, e, _⟩ => ⟨q, e, by omega⟩) h2 w
            have hl0 : l = 0 := by omega
            have hk0 : hk = 0 := by omega
            subst hl0 hk0
            cases hsz : sizeT P e with
            | none => rw [hsz] at hsome; cases hsome
            | some n => exact ⟨_, by simp [Instr.sliceAt, run_underlying hu, Instr.slice, hb, sizeT_run hsz], .nilSlice⟩
          · cases hs
        · rename_i i off
          split at hs
          · rename_i hsz
            simp at hs; subst hs
            cases hx with
            | @slice _ _ _ _ b off' cap hcap halt =>
              have hb := run_sliceBounds (P := P) (isSlice := true) (len := len) (cap := cap) (h1.imp id fun ⟨q, e, hle⟩ => ⟨q, e, by omega⟩) h2 w
              refine ⟨_, by simp [Instr.sliceAt, run_underlying hu, Instr.slice, hb, sizeT_run hsz]; rfl, ?_⟩
              by_cases hm : cap = l
              · subst hm
                simp only [if_true]
                have : hk - cap = 0 := by omega
                rw [this, Nat.sub_self]
                exact .slice (Nat.le_refl _) (.inl rfl)
              · rw [if_neg hm]
                rw [addr_add]
                rcases halt with h0 | ⟨base, n, hi, rfl, hn⟩
                · omega
                · refine .slice (by omega) (.inr ⟨base, n, hi, by omega, ?_⟩)
                  rw [Nat.sub_mul]
                  have : l * es ≤ cap * es := Nat.mul_le_mul_right _ (by omega)
                  omega
          · cases hs
        · cases hs
      · cases hs
    · cases hs
  · cases hs

theorem indexAddrA_sound {t : TypeId} {x x' ix ix' v : Value} (hs : indexAddrA P t x ix = some v) (hx : VRel ρ x x') (hi : VRel ρ ix ix') (w : World) :
    ∃ v', (Instr.indexAt t x' ix').run P w = .ok v' w ∧ VRel ρ v v' := by
  unfold indexAddrA at hs
  split at hs
  · rename_i len e i off q k hu
    cases hi
    split at hs
    · rename_i n hn
      split at hs
      · rename_i hc
        simp at hs hc; subst hs
        cases hx with
        | ptr hr =>
          refine ⟨_, by simp [Instr.indexAt, asIntOf, run_underlying hu, Instr.sureAddr, hc.1, hc.2, sizeT_run hn]; rfl, ?_⟩
          rw [addr_add, Nat.add_assoc]
          exact .ptr hr
      · cases hs
    · cases hs
  · rename_i e i off len es q k hu
    cases hi
    split at hs
    · rename_i hc
      simp at hs hc; subst hs
      cases hx with
      | slice hcap halt =>
        rcases halt with h0 | ⟨base, n, hr, rfl, hn⟩
        · omega
        · have hz : ¬ (len ≤ 1 ∧ False) := by simp
          refine ⟨_, by simp [Instr.indexAt, asIntOf, run_underlying hu, hc.1.2, hc.2, sizeT_run hc.1.1]; rfl, ?_⟩
          rw [addr_add, Nat.add_assoc]
          exact .ptr hr
    · cases hs
  · cases hs

theorem indexA_sound {t : TypeId} {x x' ix ix' v : Value} (hs : indexA P t x ix = some v) (hx : VRel ρ x x') (hi : VRel ρ ix ix') (w : World) :
    ∃ v', (Instr.index t x' ix').run P w = .ok v' w ∧ VRel ρ v v' := by
  unfold indexA at hs
  split at hs
  · rename_i len e cs q k hu
    cases hi
    split at hs
    · rename_i n hn
      split at hs
      · rename_i hc
        simp at hc
        cases hx with
        | agg h1 h2 =>
          obtain ⟨v', hr, hv⟩ := partA_sound (ρ := ρ) hs (VRel.agg_iff.1 (.agg h1 h2)) w
          exact ⟨v', by simp [Instr.index, asIntOf, run_underlying hu, hc.1, hc.2, sizeT_run hn, hr], hv⟩
      · cases hs
    · cases hs
  · rename_i s q k hu
    cases hi; cases hx
    split at hs
    · rename_i hc
      cases hb : s[k.toNat]? with
      | none => simp [hb] at hs
      | some b =>
        simp [hb] at hs; subst hs
        exact ⟨_, by simp [Instr.index, asIntOf, run_underlying hu, hc, hb], .int _ _⟩
    · cases hs
  · cases hs

theorem fieldAddrA_sound {t : TypeId} {x x' v : Value} {f : Nat} (hs : fieldAddrA P t x f = some v) (hx : VRel ρ x x') (w : World) :
    ∃ v', (Instr.fieldAt t x' f).run P w = .ok v' w ∧ VRel ρ v v' := by
  unfold fieldAddrA at hs
  split at hs
  · rename_i fields i off hu
    split at hs
    · rename_i fd hf
      split at hs
      · rename_i n hn
        split at hs
        · cases hs
        · rename_i h0
          simp at hs; subst hs
          cases hx with
          | ptr hr =>
            refine ⟨_, by simp [Instr.fieldAt, run_underlying hu, hf, Instr.sureAddr, fieldPlace, sizeT_run hn, h0]; rfl, ?_⟩
            rw [addr_add, Nat.add_assoc]
            exact .ptr hr
      · cases hs
    · cases hs
  · cases hs

theorem fieldA_sound {t : TypeId} {x x' v : Value} {f : Nat} (hs : fieldA P t x f = some v) (hx : VRel ρ x x') (w : World) :
    ∃ v', (Instr.field t x' f).run P w = .ok v' w ∧ VRel ρ v v' := by
  unfold fieldA at hs
  split at hs
  · rename_i fields cs hu
    split at hs
    · rename_i fd hf
      cases hx with
      | agg h1 h2 =>
        obtain ⟨v', hr, hv⟩ := partA_sound (ρ := ρ) hs (VRel.agg_iff.1 (.agg h1 h2)) w
        exact ⟨v', by simp [Instr.field, run_underlying hu, hf, asAgg, hr], hv⟩
    · cases hs
  · cases hs

end
end Go.Am
