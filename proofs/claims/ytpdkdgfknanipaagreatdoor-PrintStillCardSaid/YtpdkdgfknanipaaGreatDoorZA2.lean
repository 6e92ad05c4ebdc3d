/- The abstract machine, second part: a step is sound, and so is code. -/
import Derived.Test.YtpdkdgfknanipaaGreatDoorZA1
import Derived.Laws.BytesArg
import Derived.MapKept
import Derived.LoopN
section
namespace Go.Am
open Go.RowKit (Below)

def mV (ρ : Ren) (env : Env) (a : Act) : Prop := ∀ t v, env t = some v → bA ρ v (a.tmps.getD t undef)

def Out (P : Program) (G B : Nat) (w0 : World) (ρ : Ren) (h : aA) (w : World) (r : Result Next) : mF → Prop
 | .val v h' => ∃ v' w' ρ', r = .ok (.value v') w' ∧ Ext ρ h ρ' h' ∧ Rel G B w0 ρ' h' w' ∧ bA ρ' v v'
 | .skip h' => ∃ w' ρ', r = .ok .skip w' ∧ Ext ρ h ρ' h' ∧ Rel G B w0 ρ' h' w'
 | .enter f args => (P.funcs[f]?).any (·.body.isSome) = true ∧ ∃ args', r = .ok (.enter f args') w ∧ bP ρ args args'.toList
 | .panic v => ∃ v', r = .halt (.panic v') w ∧ bA ρ v v'

section
variable {G B : Nat} {w0 : World} {ρ : Ren} {h : aA} {w : World} {P : Program} {env : Env} {a : Act}

theorem Out.same (R : Rel G B w0 ρ h w) {v v' : Value} (hv : bA ρ v v') {r : Result Next} (hr : r = .ok (.value v') w) : Out P G B w0 ρ h w r (.val v h) :=
 ⟨v', w, ρ, hr, Ext.refl _ _, R, hv⟩

theorem aX (R : Rel G B w0 ρ h w) (he : mV ρ env a) {x : Operand} {v : Value} (hx : aJ G env x = some v) : bA ρ v (a.eval x) := by
 cases x with
 | tmp t => exact he t v hx
 | const c =>
  simp only [aJ] at hx
  split at hx
  ·rename_i hc; cases hx; exact bA.closed 3 hc
  ·cases hx
 | global g =>
  simp only [aJ] at hx
  split at hx
  ·rename_i hg
   cases hx
   obtain ⟨n, hn⟩ := R.r8 g hg
   have := bA.ptr (off := 0) hn
   simpa [Act.eval] using this
  ·cases hx
 | func f => simp only [aJ] at hx; cases hx; exact bA.lZ.2 ⟨.nil _, .nil _⟩

theorem iH (R : Rel G B w0 ρ h w) (he : mV ρ env a) : ∀ {xs : List Operand} {vs : List Value}, bO G env xs = some vs → bP ρ vs (xs.map a.eval)
 | [], vs, hx => by simp [bO] at hx; subst hx; exact .nil _
 | x :: xs, vs, hx => by
  unfold bO at hx
  split at hx
  ·rename_i v vs' h1 h2
   cases hx
   exact .cons (aX R he h1) (iH R he h2)
  ·cases hx

def aE2 (ρ : Ren) : List (Nat × Value) → List (Nat × Value) → Prop
 | [], [] => True
 | (i, v) :: l, (j, v') :: l' => i = j ∧ bA ρ v v' ∧ aE2 ρ l l'
 | _, _ => False

theorem iM (R : Rel G B w0 ρ h w) (he : mV ρ env a) : ∀ {xs : List (Nat × Operand)} {vs : List (Nat × Value)}, c9 G env xs = some vs → aE2 ρ vs (xs.map fun (i, x) => (i, a.eval x))
 | [], vs, hx => by simp [c9] at hx; subst hx; trivial
 | (i, x) :: xs, vs, hx => by
  unfold c9 at hx
  split at hx
  ·rename_i v vs' h1 h2
   cases hx
   exact ⟨rfl, aX R he h1, iM R he h2⟩
  ·cases hx

theorem bP.cI {vs vs' : List Value} (hv : bP ρ vs vs') : ∀ {cs cs' : List Value} (off : Nat), bP ρ cs cs' → bP ρ (cI cs off vs) (cI cs' off vs') := by
 induction vs generalizing vs' with
 | nil => intro cs cs' off hc; obtain rfl := hv.dN; exact hc
 | cons v vs ih =>
  intro cs cs' off hc
  obtain ⟨v', l, rfl, h1, h2⟩ := hv.cons_inv
  exact ih h2 (off + 1) (hc.set off h1)

theorem qX (off : Nat) : ∀ (l : List Value) (k : Nat) (A : Array Value),
  ((l.zipIdx k).foldl (fun cs (c, j) => cs.setIfInBounds (off + j) c) A).toList = cI A.toList (off + k) l
 | [], k, A => rfl
 | v :: l, k, A => by
  simp only [List.zipIdx_cons, List.foldl_cons, cI]
  rw [qX off l (k + 1)]
  rw [Array.toList_setIfInBounds]
  rw [Nat.add_assoc]

theorem mM {place place' : Nat → Option (Nat × Nat)} (hp : ∀ i x, place i = some x → place' i = some x) : ∀ {parts parts' : List (Nat × Value)} {cs : List Value} {cs' : Array Value} {out : List Value},
  aE2 ρ parts parts' → bP ρ cs cs'.toList → jA place cs parts = some out → ∃ out', Instr.fill place' cs' parts' = some out' ∧ bP ρ out out'.toList
 | [], [], cs, cs', out, _, hc, hf => by simp [jA] at hf; subst hf; exact ⟨cs', rfl, hc⟩
 | (i, v) :: parts, (j, v') :: parts', cs, cs', out, hpr, hc, hf => by
  obtain ⟨rfl, hv, hrest⟩ := hpr
  unfold jA at hf
  split at hf
  ·cases hf
  ·rename_i off size hpl
   split at hf
   ·cases hf
   ·rename_i hcond
    have hvc := hv.cells
    have hsz : v'.cells.size = v.cells.size := by have := hvc.1; simpa using this.symm
    have hcs : cs'.size = cs.length := by have := hc.1; simpa using this.symm
    have hcs2 : bP ρ (cI cs off v.cells.toList) ((v'.cells.zipIdx.foldl (fun cs (c, j) => cs.setIfInBounds (off + j) c) cs')).toList := by
     have e : v'.cells.zipIdx.foldl (fun cs (c, j) => cs.setIfInBounds (off + j) c) cs' = (v'.cells.toList.zipIdx 0).foldl (fun cs (c, j) => cs.setIfInBounds (off + j) c) cs' := by
      rw [← Array.foldl_toList, Array.toList_zipIdx]
     rw [e, qX off v'.cells.toList 0 cs']
     exact hvc.cI _ hc
    obtain ⟨out', h1, h2⟩ := mM hp hrest hcs2 hf
    refine ⟨out', ?_, h2⟩
    have hc2 : ¬ (v'.cells.size ≠ size ∨ off + v'.cells.size > cs'.size) := by simpa [hsz, hcs] using hcond
    simp only [Instr.fill, hp _ _ hpl, Bool.or_eq_true, decide_eq_true_eq, hc2, if_false]
    simpa using h1

theorem q4 : ∀ {fs : List Field} {pl : List (Nat × Nat)}, sO P fs = some pl → ∀ w : World, (fs.mapM fun (f : Field) => (do pure (f.offset, ← sizeOf f.type) : Sem (Nat × Nat))).run P w = .ok pl w
 | [], pl, hp, w => by simp [sO] at hp; subst hp; rfl
 | f :: fs, pl, hp, w => by
  unfold sO at hp
  split at hp
  ·rename_i n l h1 h2
   cases hp
   have ih := q4 h2 w
   rw [List.mapM_cons]
   simp only [Sem.run_bind, dL h1, Result.andThen_ok, Sem.run_pure, ih]
  ·cases hp

theorem y5 {t : TypeId} {parts parts' : List (Nat × Value)} {v : Value} (hb : q9 P t parts = some v) (hp : aE2 ρ parts parts') (w : World) :
  ∃ v', (Instr.build t parts'.toArray).run P w = .ok v' w ∧ bA ρ v v' := by
 unfold q9 at hb
 split at hb
 ·rename_i z fields hz hu
  obtain ⟨hzr, hzc⟩ := dW (ρ := ρ) hz w
  split at hb
  ·rename_i pl hpl
   cases hf : jA (fun i => pl[i]?) z.cells.toList parts with
   | none => simp [hf] at hb
   | some cs =>
    simp [hf] at hb; subst hb
    obtain ⟨out', h1, h2⟩ := mM (place' := fun i => pl.toArray[i]?) (fun i x hx => by simpa using hx) hp hzc.cells hf
    have hm : (fields.mapM fun (f : Field) => (do pure (f.offset, ← sizeOf f.type) : Sem (Nat × Nat))).run P w = .ok pl.toArray w := by
     rw [Array.mapM_eq_mapM_toList, Sem.run_map, q4 hpl w]; rfl
    refine ⟨.agg out', ?_, bA.fI.2 (by simpa using h2)⟩
    simp only [Instr.build, Sem.run_bind, hzr, Result.andThen_ok, run_underlying hu, hm]
    simp at h1
    simp [h1]
  ·cases hb
 ·rename_i z n0 e hz hu
  obtain ⟨hzr, hzc⟩ := dW (ρ := ρ) hz w
  split at hb
  ·rename_i n hn
   cases hf : jA (fun i => some (i * n, n)) z.cells.toList parts with
   | none => simp [hf] at hb
   | some cs =>
    simp [hf] at hb; subst hb
    obtain ⟨out', h1, h2⟩ := mM (fun i x hx => hx) hp hzc.cells hf
    refine ⟨.agg out', ?_, bA.fI.2 (by simpa using h2)⟩
    simp only [Instr.build, Sem.run_bind, hzr, Result.andThen_ok, run_underlying hu, dL hn]
    simp [h1]
  ·cases hb
 ·cases hb

theorem nK (z : Value) (k : Nat) : (fN z k).length = k * z.cells.size := by
 induction k with
 | zero => simp [fN]
 | succ k ih => simp [fN, ih, Nat.add_mul]; omega

theorem xO (z : Value) (hz : 0 < z.cells.size) : ∀ (k m : Nat), m < k * z.cells.size → (fN z k)[m]? = some z.cells[m % z.cells.size]!
 | 0, m, hm => by simp at hm
 | k + 1, m, hm => by
  rw [fN]
  by_cases h1 : m < z.cells.size
  ·rw [List.getElem?_append_left (by simpa using h1), Nat.mod_eq_of_lt h1]
   simp [h1]
  ·rw [List.getElem?_append_right (by simp; omega)]
   have hm2 : m - z.cells.size < k * z.cells.size := by rw [Nat.add_mul] at hm; omega
   have := xO z hz k (m - z.cells.size) hm2
   simp only [Array.length_toList]
   rw [this]
   congr 2
   exact (Nat.mod_eq_sub_mod (by omega)).symm

theorem xQ {z : Value} (hz : 0 < z.cells.size) (hc : bA ρ z z) (k : Nat) : bP ρ (fN z k) ((Array.range (k * z.cells.size)).map fun i => z.cells[i % z.cells.size]!).toList := by
 refine ⟨by rw [nK]; simp, fun j v v' hv hv' => ?_⟩
 have hj : j < k * z.cells.size := by
  rcases Nat.lt_or_ge j (k * z.cells.size) with h | h
  ·exact h
  ·rw [List.getElem?_eq_none (by rw [nK]; exact h)] at hv; cases hv
 rw [xO z hz k j hj] at hv
 simp [hj] at hv'
 cases hv; subst hv'
 have hm : j % z.cells.size < z.cells.size := Nat.mod_lt _ hz
 have := hc.cells.2 (j % z.cells.size) z.cells[j % z.cells.size] z.cells[j % z.cells.size] (by simp [hm]) (by simp [hm])
 simpa [hm] using this

theorem r7 {place : Nat → Option (Nat × Nat)} : ∀ {parts : List (Nat × Value)} {c0 cs : List Value}, jA place c0 parts = some cs → cs.length = c0.length
 | [], c0, cs, hf => by simp [jA] at hf; rw [hf]
 | (i, v) :: ps, c0, cs, hf => by
  simp only [jA] at hf
  split at hf
  ·cases hf
  ·split at hf
   ·cases hf
   ·rw [r7 hf, mB]

theorem nM {t : TypeId} {len : Nat} {parts parts' : List (Nat × Value)} {v : Value} {h' : aA} (hb : fD P t len parts h = some (v, h')) (hp : aE2 ρ parts parts') :
  ∃ n cs cs' e, v = .slice (some ⟨h.next, 0, none⟩) len n ∧ h' = h.alloc (.cells false cs) ∧ bP ρ cs cs'.toList ∧ cs'.size = len * n ∧
   ∀ w : World, (Instr.buildSlice t len parts'.toArray).run P w = .ok (.slice (some ⟨w.heap.size, 0, none⟩) len len) (w.alloc (.cells cs' e)) := by
 unfold fD at hb
 split at hb
 ·rename_i e hu
  split at hb
  ·rename_i n z hn hz
   split at hb
   ·rename_i hc
    simp only [Bool.and_eq_true, decide_eq_true_eq] at hc
    obtain ⟨⟨hzs, hn0⟩, hsm⟩ := hc
    have hzc : bA ρ z z := (dW (ρ := ρ) hz default).2
    cases hf : jA (fun i => some (i * n, n)) (fN z len) parts with
    | none => simp [hf] at hb
    | some cs =>
     simp only [hf, Option.map_some, Option.some.injEq, Prod.mk.injEq] at hb
     obtain ⟨rfl, rfl⟩ := hb
     have hzz := xQ (ρ := ρ) (z := z) (by omega) hzc len
     rw [hzs] at hzz
     obtain ⟨out', h1, h2⟩ := mM (fun i x hx => hx) hp hzz hf
     have hlen : out'.size = len * n := by
      have e1 := h2.1
      have e2 := r7 hf
      rw [nK, hzs] at e2
      simp at e1
      omega
     refine ⟨n, cs, out', e, rfl, rfl, h2, hlen, fun w => ?_⟩
     have hzr := (dW (P := P) (ρ := ρ) hz w).1
     have hrun : (newRow e out').run P w = .ok ⟨w.heap.size, 0, none⟩ (w.alloc (.cells out' e)) := by simp [newRow]
     have hsm' : ¬ (16777216 < len * n) := by omega
     by_cases h0 : len = 0
     ·subst h0
      have e0 : Array.range (0 * n) = #[] := by rw [Nat.zero_mul]; rfl
      rw [e0] at h1
      simp at h1
      have e1 : Array.range 0 = #[] := rfl
      simp [Instr.buildSlice, run_underlying hu, dL hn, e1, h1, newRow]
     ·have hn1 : n ≠ 0 := by omega
      subst hzs
      have hp0 : ¬ (len * z.cells.size = 0) := fun e => by
       rcases Nat.mul_eq_zero.1 e with h | h
       ·exact h0 h
       ·exact hn1 h
      simp [Instr.buildSlice, run_underlying hu, dL hn, hsm', hp0, hzr, h1, newRow]
   ·cases hb
  ·cases hb
 ·cases hb

theorem rW (R : Rel G B w0 ρ h w) {t : TypeId} {len : Nat} {parts parts' : List (Nat × Value)} {v : Value} {h' : aA} (hb : fD P t len parts h = some (v, h')) (hp : aE2 ρ parts parts') :
  ∃ v' w' ρ', (Instr.buildSlice t len parts'.toArray).run P w = .ok v' w' ∧ Ext ρ h ρ' h' ∧ Rel G B w0 ρ' h' w' ∧ bA ρ' v v' := by
 obtain ⟨n, cs, cs', e, rfl, rfl, h2, hsz, hrun⟩ := nM hb hp
 obtain ⟨_, hR⟩ := iT (P := P) R e h2
 exact ⟨_, _, _, hrun w, Ext.bL _ _ _ _, hR, .slice (Nat.le_refl _) (.inr ⟨0, cs'.size, by simp [Ren.bL], by simp, by omega⟩)⟩

theorem aF4 {op : UnOp} {x x' v : Value} (hu : unA op x = some v) (hx : bA ρ x x') (w : World) : (Op.unary op x').run P w = .ok v w ∧ bA ρ v v := by
 unfold unA at hu
 split at hu <;> simp at hu <;> subst hu <;> cases hx
 ·exact ⟨by simp [Op.unary, Op.intArith], .int _ _⟩
 ·exact ⟨by simp [Op.unary], .bool _⟩
 ·exact ⟨by simp [Op.unary, Op.intBits], .int _ _⟩

theorem r5 {lo : Option Operand} {l : List Value} (R : Rel G B w0 ρ h w) (he : mV ρ env a) (hl : bO G env lo.toList = some l) :
  match l.head?, lo.map a.eval with
  | none, none => True
  | some v, some v' => bA ρ v v'
  | _, _ => False := by
 have := iH R he hl
 cases lo with
 | none => simp at this; have := this.1; simp at this; subst this; trivial
 | some x =>
  simp at this
  cases l with
  | nil => have := this.1; simp at this
  | cons v r =>
   obtain ⟨v', l', e, h1, h2⟩ := this.cons_inv
   simp at e
   obtain ⟨rfl, rfl⟩ := e
   exact h1

def aCk (ρ : Ren) (x y : Option Value) : Prop :=
 match x, y with
 | none, none => True
 | some v, some v' => bA ρ v v'
 | _, _ => False

theorem lK {limit d k : Nat} {x y : Option Value} (hb : jM limit x d = some k) (hr : aCk ρ x y) :
  (y = none ∧ k = d) ∨ (∃ q, y = some (.int q k) ∧ k ≤ limit) := by
 unfold jM at hb
 split at hb
 ·cases y with
  | none => simp at hb; exact .inl ⟨rfl, hb.symm⟩
  | some _ => exact hr.elim
 ·rename_i q i
  split at hb
  ·rename_i hc
   simp at hb hc
   cases y with
   | none => exact hr.elim
   | some v' =>
    cases hr
    refine .inr ⟨q, ?_, by omega⟩
    rw [← hb]
    congr 2
    omega
  ·cases hb
 ·cases hb

theorem lD {isSlice : Bool} {len cap l hh : Nat} {lo hi : Option Value} (hhi : (hi = none ∧ hh = len) ∨ (∃ q, hi = some (.int q hh) ∧ hh ≤ cap)) (hlo : (lo = none ∧ l = 0) ∨ (∃ q, lo = some (.int q l) ∧ l ≤ hh)) (w : World) :
  (Instr.sliceBounds isSlice len cap lo hi none).run P w = .ok (l, hh, cap) w := by
 rcases hhi with ⟨rfl, rfl⟩ | ⟨q, rfl, h1⟩ <;> rcases hlo with ⟨rfl, rfl⟩ | ⟨q', rfl, h2⟩
 ·simp [Instr.sliceBounds]
 ·simp [Instr.sliceBounds, Instr.sliceBound, asIntOf, h2]
 ·simp [Instr.sliceBounds, Instr.sliceBound, asIntOf, h1]
 ·simp [Instr.sliceBounds, Instr.sliceBound, asIntOf, h1, h2]

theorem z6 {t : TypeId} {x x' v : Value} {lo hi lo' hi' : Option Value} (hs : iB P t x lo hi = some v) (hx : bA ρ x x') (hl : aCk ρ lo lo') (hh : aCk ρ hi hi') (w : World) :
  ∃ v', (Instr.sliceAt t x' lo' hi' none).run P w = .ok v' w ∧ bA ρ v v' := by
 unfold iB at hs
 split at hs
 ·rename_i s hu
  cases hx
  split at hs
  ·rename_i hk hbh
   split at hs
   ·rename_i l hbl
    simp at hs; subst hs
    have h1 := lK hbh hh
    have h2 := lK hbl hl
    have hb := lD (P := P) (isSlice := false) (len := s.size) (cap := s.size) h1 h2 w
    exact ⟨_, by simp [Instr.sliceAt, run_underlying hu, Instr.slice, hb], .string _⟩
   ·cases hs
  ·cases hs
 ·rename_i e a0 len es hu
  split at hs
  ·rename_i hk hbh
   split at hs
   ·rename_i l hbl
    have h1 := lK hbh hh
    have h2 := lK hbl hl
    have hkl : hk ≤ len := by rcases h1 with ⟨_, h⟩ | ⟨_, _, h⟩ <;> omega
    have hlk : l ≤ hk := by rcases h2 with ⟨_, h⟩ | ⟨_, _, h⟩ <;> omega
    split at hs
    ·split at hs
     ·rename_i h0
      simp only [Bool.and_eq_true, decide_eq_true_eq] at h0
      obtain ⟨h0, hsome⟩ := h0
      simp at hs; subst hs
      cases hx
      have hb := lD (P := P) (isSlice := true) (len := 0) (cap := 0) (h1.imp id fun ⟨q, e, _⟩ => ⟨q, e, by omega⟩) h2 w
      have hl0 : l = 0 := by omega
      have hk0 : hk = 0 := by omega
      subst hl0 hk0
      cases hsz : dF P e with
      | none => rw [hsz] at hsome; cases hsome
      | some n => exact ⟨_, by simp [Instr.sliceAt, run_underlying hu, Instr.slice, hb, dL hsz], .gQ⟩
     ·cases hs
    ·rename_i i off
     split at hs
     ·rename_i hsz
      simp at hs; subst hs
      cases hx with
      | @slice _ _ _ _ b off' cap hcap halt =>
       have hb := lD (P := P) (isSlice := true) (len := len) (cap := cap) (h1.imp id fun ⟨q, e, hle⟩ => ⟨q, e, by omega⟩) h2 w
       refine ⟨_, by simp [Instr.sliceAt, run_underlying hu, Instr.slice, hb, dL hsz]; rfl, ?_⟩
       by_cases hm : cap = l
       ·subst hm
        simp only [if_true]
        have : hk - cap = 0 := by omega
        rw [this, Nat.sub_self]
        exact .slice (Nat.le_refl _) (.inl rfl)
       ·rw [if_neg hm]
        rw [iD]
        rcases halt with h0 | ⟨base, n, hi, rfl, hn⟩
        ·omega
        ·refine .slice (by omega) (.inr ⟨base, n, hi, by omega, ?_⟩)
         rw [Nat.sub_mul]
         have : l * es ≤ cap * es := Nat.mul_le_mul_right _ (by omega)
         omega
     ·cases hs
    ·cases hs
   ·cases hs
  ·cases hs
 ·cases hs

theorem tH {t : TypeId} {x x' ix ix' v : Value} (hs : kB P t x ix = some v) (hx : bA ρ x x') (hi : bA ρ ix ix') (w : World) :
  ∃ v', (Instr.indexAt t x' ix').run P w = .ok v' w ∧ bA ρ v v' := by
 unfold kB at hs
 split at hs
 ·rename_i len e i off q k hu
  cases hi
  split at hs
  ·rename_i n hn
   split at hs
   ·rename_i hc
    simp at hs hc; subst hs
    cases hx with
    | ptr hr =>
     refine ⟨_, by simp [Instr.indexAt, asIntOf, run_underlying hu, Instr.sureAddr, hc.1, hc.2, dL hn]; rfl, ?_⟩
     rw [iD, Nat.add_assoc]
     exact .ptr hr
   ·cases hs
  ·cases hs
 ·rename_i e i off len es q k hu
  cases hi
  split at hs
  ·rename_i hc
   simp at hs hc; subst hs
   cases hx with
   | slice hcap halt =>
    rcases halt with h0 | ⟨base, n, hr, rfl, hn⟩
    ·omega
    ·have hz : ¬ (len ≤ 1 ∧ False) := by simp
     refine ⟨_, by simp [Instr.indexAt, asIntOf, run_underlying hu, hc.1.2, hc.2, dL hc.1.1]; rfl, ?_⟩
     rw [iD, Nat.add_assoc]
     exact .ptr hr
  ·cases hs
 ·cases hs

theorem zG {t : TypeId} {x x' ix ix' v : Value} (hs : tG P t x ix = some v) (hx : bA ρ x x') (hi : bA ρ ix ix') (w : World) :
  ∃ v', (Instr.index t x' ix').run P w = .ok v' w ∧ bA ρ v v' := by
 unfold tG at hs
 split at hs
 ·rename_i len e cs q k hu
  cases hi
  split at hs
  ·rename_i n hn
   split at hs
   ·rename_i hc
    simp at hc
    cases hx with
    | agg h1 h2 =>
     obtain ⟨v', hr, hv⟩ := mQ (ρ := ρ) hs (bA.fI.1 (.agg h1 h2)) w
     exact ⟨v', by simp [Instr.index, asIntOf, run_underlying hu, hc.1, hc.2, dL hn, hr], hv⟩
   ·cases hs
  ·cases hs
 ·rename_i s q k hu
  cases hi; cases hx
  split at hs
  ·rename_i hc
   cases hb : s[k.toNat]? with
   | none => simp [hb] at hs
   | some b =>
    simp [hb] at hs; subst hs
    exact ⟨_, by simp [Instr.index, asIntOf, run_underlying hu, hc, hb], .int _ _⟩
  ·cases hs
 ·cases hs

theorem tF {t : TypeId} {x x' v : Value} {f : Nat} (hs : j8 P t x f = some v) (hx : bA ρ x x') (w : World) :
  ∃ v', (Instr.fieldAt t x' f).run P w = .ok v' w ∧ bA ρ v v' := by
 unfold j8 at hs
 split at hs
 ·rename_i fields i off hu
  split at hs
  ·rename_i fd hf
   split at hs
   ·rename_i n hn
    split at hs
    ·cases hs
    ·rename_i h0
     simp at hs; subst hs
     cases hx with
     | ptr hr =>
      refine ⟨_, by simp [Instr.fieldAt, run_underlying hu, hf, Instr.sureAddr, fieldPlace, dL hn, h0]; rfl, ?_⟩
      rw [iD, Nat.add_assoc]
      exact .ptr hr
   ·cases hs
  ·cases hs
 ·cases hs

theorem zE {t : TypeId} {x x' v : Value} {f : Nat} (hs : rD P t x f = some v) (hx : bA ρ x x') (w : World) :
  ∃ v', (Instr.field t x' f).run P w = .ok v' w ∧ bA ρ v v' := by
 unfold rD at hs
 split at hs
 ·rename_i fields cs hu
  split at hs
  ·rename_i fd hf
   cases hx with
   | agg h1 h2 =>
    obtain ⟨v', hr, hv⟩ := mQ (ρ := ρ) hs (bA.fI.1 (.agg h1 h2)) w
    exact ⟨v', by simp [Instr.field, run_underlying hu, hf, asAgg, hr], hv⟩
  ·cases hs
 ·cases hs

end
end Go.Am
end

section
namespace Go.Am
open Go.RowKit (Below)

section
variable {G B : Nat} {w0 : World} {ρ : Ren} {h : aA} {w : World} {P : Program} {env : Env} {a : Act}

theorem o6 {t : TypeId} {l c l' c' v : Value} {h' : aA} (hs : gP P t l c h = some (v, h')) (hl : bA ρ l l') (hc : bA ρ c c') :
  ∃ n len cap cs cs' e, v = .slice (some ⟨h.next, 0, none⟩) len n ∧ h' = h.alloc (.cells false cs) ∧ len ≤ cap ∧ bP ρ cs cs'.toList ∧ cs'.size = cap * n ∧
   ∀ w : World, (Instr.makeSlice t l' c').run P w = .ok (.slice (some ⟨w.heap.size, 0, none⟩) len cap) (w.alloc (.cells cs' e)) := by
 unfold gP at hs
 split at hs
 ·rename_i e q l q' c hu
  cases hl; cases hc
  split at hs
  ·rename_i n bytes z hfit hz
   split at hs
   ·rename_i hcond
    simp only [Bool.and_eq_true, decide_eq_true_eq] at hcond
    obtain ⟨⟨⟨⟨h0, hle⟩, hbig⟩, hby⟩, hzs⟩ := hcond
    simp only [Option.some.injEq, Prod.mk.injEq] at hs
    obtain ⟨rfl, rfl⟩ := hs
    obtain ⟨ei, z', hi, hz', hsz, hbt, _, hn0, hb0⟩ := mZ hfit
    have hzc : bA ρ z z := (dW (ρ := ρ) hz default).2
    have hzz := xQ (ρ := ρ) (z := z) (by omega) hzc c.toNat
    have wl : IntKind.i64.wrap l = l := by simp [IntKind.wrap, IntKind.bits, IntKind.signed]; omega
    have wc : IntKind.i64.wrap c = c := by simp [IntKind.wrap, IntKind.bits, IntKind.signed]; omega
    have hbl : (bytes : Int) * l ≤ bytes * c := Int.mul_le_mul_of_nonneg_left hle (by omega)
    refine ⟨n, l.toNat, c.toNat, _, _, e, rfl, rfl, by omega, hzz, by simp [hzs], fun w => ?_⟩
    have hzr := (dW (P := P) (ρ := ρ) hz w).1
    subst hzs
    have hc1 : ¬ c < 0 := by omega
    have hc2 : ¬ (281474976710656 < (ei.bytes : Int) * c) := by rw [hbt]; omega
    have hc3 : ¬ l < 0 := by omega
    have hc4 : ¬ c < l := by omega
    by_cases h00 : c.toNat * z.cells.size = 0
    ·have hcz : c.toNat = 0 := by
      rcases Nat.mul_eq_zero.1 h00 with h | h
      ·exact h
      ·omega
     have e1 : Array.range 0 = #[] := rfl
     simp [Instr.makeSlice, run_underlying hu, asInt, asIntOf, typeInfo, hi, wl, wc, hc1, hc2, hc3, hc4, sizeOf, hcz, e1, newRow]
    ·simp [Instr.makeSlice, run_underlying hu, asInt, asIntOf, typeInfo, hi, wl, wc, hc1, hc2, hc3, hc4, sizeOf, hsz, h00, hzr, newRow]
   ·cases hs
  ·cases hs
 ·cases hs

theorem tN (R : Rel G B w0 ρ h w) {t : TypeId} {l c l' c' v : Value} {h' : aA} (hs : gP P t l c h = some (v, h')) (hl : bA ρ l l') (hc : bA ρ c c') :
  ∃ v' w' ρ', (Instr.makeSlice t l' c').run P w = .ok v' w' ∧ Ext ρ h ρ' h' ∧ Rel G B w0 ρ' h' w' ∧ bA ρ' v v' := by
 obtain ⟨n, len, cap, cs, cs', e, rfl, rfl, hle, h2, hsz, hrun⟩ := o6 hs hl hc
 obtain ⟨_, hR⟩ := iT (P := P) R e h2
 exact ⟨_, _, _, hrun w, Ext.bL _ _ _ _, hR, .slice hle (.inr ⟨0, cs'.size, by simp [Ren.bL], by simp, by omega⟩)⟩

theorem oX : ∀ {vs : List Value} {l : List Int}, cP vs = some l → vs = l.map (Value.int .u8)
 | [], l, hb => by simp [cP] at hb; subst hb; rfl
 | v :: vs, l, hb => by
  unfold cP at hb
  split at hb
  ·simp_all
  ·rename_i n r heq
   simp only [List.cons.injEq] at heq
   obtain ⟨rfl, rfl⟩ := heq
   split at hb
   ·rename_i l' hl'
    cases hb
    rw [oX hl']; rfl
   ·cases hb
  ·cases hb

theorem bP.ints {k : IntKind} : ∀ {l : List Int} {r : List Value}, bP ρ (l.map (Value.int k)) r → r = l.map (Value.int k)
 | [], r, hr => hr.dN
 | n :: l, r, hr => by
  obtain ⟨v', l', rfl, h1, h2⟩ := hr.cons_inv
  cases h1
  rw [bP.ints h2]; rfl

theorem wD (R : Rel G B w0 ρ h w) {s d : TypeId} {x x' v : Value} {h' : aA} (hc : iG P s d x h = some (v, h')) (hx : bA ρ x x') :
  ∃ v' w' ρ', (convert s d x').run P w = .ok v' w' ∧ Ext ρ h ρ' h' ∧ Rel G B w0 ρ' h' w' ∧ bA ρ' v v' := by
 unfold iG at hc
 split at hc
 ·rename_i du k q n hs hd
  simp only [Option.some.injEq, Prod.mk.injEq] at hc
  obtain ⟨rfl, rfl⟩ := hc
  cases hx
  exact ⟨_, w, ρ, by simp [convert, run_underlying hs, run_underlying hd, Conv.intToInt], Ext.refl _ _, R, .int _ _⟩
 ·rename_i du q n hs hd
  simp only [Option.some.injEq, Prod.mk.injEq] at hc
  obtain ⟨rfl, rfl⟩ := hc
  cases hx
  exact ⟨_, w, ρ, by cases du <;> simp [convert, run_underlying hs, run_underlying hd, Conv.intToString], Ext.refl _ _, R, .string _⟩
 ·rename_i du s' hs hd
  simp only [Option.some.injEq, Prod.mk.injEq] at hc
  obtain ⟨rfl, rfl⟩ := hc
  cases hx
  exact ⟨_, w, ρ, by cases du <;> simp [convert, run_underlying hs, run_underlying hd], Ext.refl _ _, R, .string _⟩
 ·rename_i du e s' hs hd
  split at hc
  ·rename_i hue
   simp only [Option.some.injEq, Prod.mk.injEq] at hc
   obtain ⟨rfl, rfl⟩ := hc
   cases hx
   let q : Question := .appendCap s'.size 0 e
   let cap := q.cut (w.tape w.drawn q)
   have hcap : s'.size ≤ cap := by show _ ≤ s'.size + _; omega
   let C : Array Value := (s'.data.map fun b => Value.int .u8 b.toNat) ++ Array.replicate (cap - s'.size) (.int .u8 0)
   have hCs : C.size = cap := by simp [C]; show s'.data.size + _ = _; have : s'.data.size = s'.size := rfl; omega
   let w1 := w.drew.alloc (.cells C e)
   let w' := w1.freeze { block := w.heap.size, off := cap } 1
   have hw1 : w1.heap[w.heap.size]? = some (.cells C e (0, 0)) := heap_alloc_new w.drew _
   have hlt : w.heap.size < w1.heap.size := by simp [w1]
   have hw' : w'.heap[w.heap.size]? = some (.cells C e (cap, cap + 1)) := by
    simp only [w', World.freeze]
    simp [Array.getElem?_modify, hw1]
   have hrun : (convert s d (.string s')).run P w = .ok (.slice (some ⟨w.heap.size, 0, none⟩) s'.size cap) w' := by
    have hsh : w1.shape? w.heap.size = some (e, cap) := by simp [World.shape?, hw1, hCs]
    have hconv : (Conv.stringToBytes e s').run P w = .ok (.slice (some ⟨w.heap.size, 0, none⟩) s'.size cap) w' := by
     have hm : ∀ (x : World), x = w1 → (markStringish ⟨w.heap.size, 0, none⟩).run P x = .ok () w' := by
      rintro x rfl
      simp [markStringish, hsh, w']
     have e1 : (newRow e C).run P w.drew = .ok ⟨w.heap.size, 0, none⟩ w1 := rfl
     have e2 : (choose (.appendCap s'.size 0 e)).run P w = .ok cap w.drew := by rw [run_choose]; rfl
     simp only [Conv.stringToBytes, Sem.run_bind, e2, Result.andThen_ok]
     show ((newRow e C).run P w.drew).andThen _ = _
     rw [e1]
     simp only [Result.andThen_ok, hm w1 rfl, Sem.run_pure]
    cases du <;> simp [convert, run_underlying hs, run_underlying hd, run_underlying hue, hconv]
   have hb : Below w.heap.size w w' := by
    have h1 : Below w.heap.size w w1 := (Below.refl _ _).drew.alloc (Nat.le_refl _) _
    refine h1.trans ⟨rfl, rfl, rfl, by simp [w', World.freeze], fun k hk => ?_⟩
    simp only [w', World.freeze]
    simp [Array.getElem?_modify]
    intro e; omega
   have hbytes : bP ρ (s'.data.toList.map fun b => Value.int .u8 b.toNat) (s'.data.toList.map fun b => Value.int .u8 b.toNat) := by
    refine ⟨rfl, fun j v v' hv hv' => ?_⟩
    rw [hv] at hv'; cases hv'
    rw [List.getElem?_map] at hv
    cases hbb : s'.data.toList[j]? with
    | none => rw [hbb] at hv; cases hv
    | some b => rw [hbb] at hv; simp at hv; subst hv; exact .int _ _
   have hR := R.new (cs := s'.data.toList.map fun b => Value.int .u8 b.toNat) hb (by simp [w', World.freeze, w1]) hw' (Or.inl (by simp [hCs])) (by simp [hCs]; exact hcap) (fun m v hm => by
    obtain ⟨v', h1, h2⟩ := hbytes.get hm
    refine ⟨v', ?_, h2⟩
    have hlt : m < s'.data.size := by
     rcases Nat.lt_or_ge m s'.data.size with h | h
     ·exact h
     ·rw [List.getElem?_eq_none (by simpa using h)] at hm; cases hm
    simp only [C]
    rw [Array.getElem?_append_left (by simpa using hlt)]
    simpa using h1)
   refine ⟨_, w', _, hrun, Ext.bL _ _ _ _, hR, .slice hcap (.inr ⟨0, C.size, by simp [Ren.bL], by simp, by omega⟩)⟩
  ·cases hc
 ·rename_i e a0 len es hs hd
  have hd' : P.underlying d = some .string := hd
  split at hc
  ·rename_i hue
   split at hc
   ·simp only [Option.some.injEq, Prod.mk.injEq] at hc
    obtain ⟨rfl, rfl⟩ := hc
    cases hx
    refine ⟨_, w, ρ, ?_, Ext.refl _ _, R, .string _⟩
    rw [run_convert_bytes_string w s d e _ _ _ hs hue hd']
    simp [Conv.bytesToString]
   ·rename_i i off
    cases hx with
    | @slice _ _ _ _ b off' cap hcapl halt =>
     split at hc
     ·rename_i h0
      subst h0
      simp only [Option.some.injEq, Prod.mk.injEq] at hc
      obtain ⟨rfl, rfl⟩ := hc
      refine ⟨_, w, ρ, ?_, Ext.refl _ _, R, .string _⟩
      rw [run_convert_bytes_string w s d e _ _ _ hs hue hd']
      simp [Conv.bytesToString, loadCells, loadCellsFrom]
     ·rename_i h0
      split at hc
      ·rename_i hes
       subst hes
       split at hc
       ·rename_i vs hvs
        cases hbc : cP vs with
        | none => simp [hbc] at hc
        | some ns =>
         simp only [hbc, Option.map_some, Option.some.injEq, Prod.mk.injEq] at hc
         obtain ⟨rfl, rfl⟩ := hc
         have hvs' := oX hbc
         subst hvs'
         rcases halt with h1 | ⟨base, n, hi, rfl, hn⟩
         ·omega
         obtain ⟨hlen, _, vs', hr, hcell⟩ := R.cells hi hvs
         obtain rfl := hr.ints
         have hl := run_loadCells_list (P := P) w ⟨b, base + off, none⟩ (ns.map (Value.int .u8)) (fun j v hv => by rw [iD]; exact hcell j v hv)
         rw [hlen] at hl
         refine ⟨_, w, ρ, ?_, Ext.refl _ _, R, .string _⟩
         rw [run_convert_bytes_string w s d e _ _ _ hs hue hd', run_bytesToString w _ _ _ ns hl, foldl_push_bytes]
         simp
       ·cases hc
      ·cases hc
   ·cases hc
  ·cases hc
 ·cases hc

theorem xX {x x' v : Value} {xt t : TypeId} {ok : Bool} (hs : u9 P x t ok = some v) (hx : bA ρ x x') (w : World) :
  ∃ v', (Instr.typeAssert x' xt t ok).run P w = .ok v' w ∧ bA ρ v v' := by
 have hpair : ∀ {v v' : Value} (b : Bool), bA ρ v v' → bA ρ (.tuple #[v, .bool b]) (.tuple #[v', .bool b]) := fun b hv => bA.gX.2 (.cons hv (.cons (.bool _) (.nil _)))
 unfold u9 at hs
 split at hs
 ·rename_i want t' v0 hu
  cases hx with
  | @iface _ _ v0' hv =>
   split at hs
   ·rename_i i hi
    split at hs
    ·rename_i hm
     cases hs
     cases ok
     ·exact ⟨_, by simp [Instr.typeAssert, run_underlying hu, typeInfo, hi, hm], .iface hv⟩
     ·exact ⟨_, by simp [Instr.typeAssert, run_underlying hu, typeInfo, hi, hm], hpair _ (.iface hv)⟩
    ·rename_i m hm
     split at hs
     ·rename_i hok
      cases hz : gC P t with
      | none => simp [hz] at hs
      | some z =>
       simp [hz] at hs; subst hs
       obtain ⟨h1, h2⟩ := dW (ρ := ρ) hz w
       exact ⟨_, by simp [Instr.typeAssert, run_underlying hu, typeInfo, hi, hm, hok, h1], hpair _ h2⟩
     ·cases hs
   ·cases hs
 ·rename_i d hu
  cases hx
  split at hs
  ·rename_i hok
   cases hz : gC P t with
   | none => simp [hz] at hs
   | some z =>
    simp [hz] at hs; subst hs
    obtain ⟨h1, h2⟩ := dW (ρ := ρ) hz w
    refine ⟨_, ?_, hpair _ h2⟩
    cases d <;> simp [Instr.typeAssert, run_underlying hu, hok, h1]
  ·cases hs
 ·rename_i d t' v0 hd hu
  cases hx with
  | @iface _ _ v0' hv =>
   split at hs
   ·rename_i ht
    subst ht
    cases hs
    cases ok
    ·refine ⟨v0', ?_, hv⟩
     cases d <;> first | exact (hd _ rfl).elim | simp [Instr.typeAssert, run_underlying hu]
    ·refine ⟨_, ?_, hpair _ hv⟩
     cases d <;> first | exact (hd _ rfl).elim | simp [Instr.typeAssert, run_underlying hu]
   ·rename_i ht
    split at hs
    ·rename_i hok
     cases hz : gC P t with
     | none => simp [hz] at hs
     | some z =>
      simp [hz] at hs; subst hs
      obtain ⟨h1, h2⟩ := dW (ρ := ρ) hz w
      refine ⟨_, ?_, hpair _ h2⟩
      cases d <;> first | exact (hd _ rfl).elim | simp [Instr.typeAssert, run_underlying hu, hok, h1, ht]
    ·cases hs
 ·cases hs


theorem yD {t : TypeId} {v v' r : Value} {name : String} {f : FuncId} (hm : oK P t v name = some (f, r)) (hv : bA ρ v v') (fuel : Nat) (w : World) :
  ∃ r', (method (fuel + 1) t v' name).run P w = .ok (f, r') w ∧ bA ρ r r' := by
 unfold oK at hm
 split at hm
 ·rename_i i hi
  split at hm
  ·rename_i m hf
   split at hm
   ·rename_i hp
    have hpl : m.path.toList = [] := by
     have : m.path = #[] := by simpa using hp
     rw [this]
    split at hm
    ·rename_i g ptr hg
     split at hm
     ·rename_i e hu
      split at hm
      ·rename_i hptr
       cases hm
       exact ⟨v', by simp [method, typeInfo, hi, hf, hpl, follow, hg, receiverAt, run_underlying hu, hptr, Place.get], hv⟩
      ·cases hm
     ·rename_i d hd hu
      split at hm
      ·cases hm
      ·rename_i hptr
       cases hm
       refine ⟨v', ?_, hv⟩
       cases d <;> first | exact (hd _ rfl).elim | simp [method, typeInfo, hi, hf, hpl, follow, hg, receiverAt, run_underlying hu, hptr, Place.get]
     ·cases hm
    ·cases hm
   ·cases hm
  ·cases hm
 ·cases hm

theorem r3 {f : FuncId} {args : List Value} {args' : Array Value} {r : mF} (he : aQ P f args = some r) (_ha : bP ρ args args'.toList) (w : World) :
  r = .enter f args ∧ (P.funcs[f]?).any (·.body.isSome) = true ∧ (callFunc f args').run P w = .ok (.enter f args') w := by
 unfold aQ at he
 split at he
 ·rename_i fn hf
  split at he
  ·rename_i hc
   simp at hc
   cases he
   refine ⟨rfl, by simp [hf, hc.1], ?_⟩
   have hb : ¬ fn.body = none := fun e => by rw [e] at hc; cases hc.1
   simp [callFunc, hf, hc.2, hb]
  ·cases he
 ·cases he

theorem qZ {fn : Fn} {args captured : List Value} {args' captured' : Array Value} {r : mF} (he : oI P fn args captured = some r) (ha : bP ρ args args'.toList) (hcp : bP ρ captured captured'.toList) (w : World) :
  ∃ f as as', r = .enter f as ∧ (P.funcs[f]?).any (·.body.isSome) = true ∧ (invoke (.fn fn captured') args').run P w = .ok (.enter f as') w ∧ bP ρ as as'.toList := by
 unfold oI at he
 split at he
 ·rename_i f
  have hl : bP ρ (args ++ captured) (args' ++ captured').toList := by simpa using ha.append hcp
  obtain ⟨h1, h2, h3⟩ := r3 he hl w
  exact ⟨f, _, _, h1, h2, by simpa [invoke] using h3, hl⟩
 ·rename_i name
  split at he
  ·rename_i t v rest
   obtain ⟨x', l', e, hx, hrest⟩ := ha.cons_inv
   split at he
   ·rename_i f r0 hm
    cases hx with
    | @iface _ _ v' hv =>
     have hfuel : ∃ k, P.types.size + Made.depth = k + 1 := ⟨P.types.size + 99, by simp [Made.depth]⟩
     obtain ⟨k, hk⟩ := hfuel
     obtain ⟨r', h1, h2⟩ := yD hm hv k w
     have hl : bP ρ (r0 :: rest) (#[r'] ++ args'.extract 1 args'.size).toList := by
      have e2 : (args'.extract 1 args'.size).toList = l' := by
       rw [Array.toList_extract, e]
       simp only [List.extract_eq_take_drop, List.drop_succ_cons, List.drop_zero]
       have : args'.size = l'.length + 1 := by rw [← Array.length_toList, e]; rfl
       rw [this]; simp
      simp only [Array.toList_append, e2]
      exact .cons h2 hrest
     obtain ⟨h3, h4, h5⟩ := r3 he hl w
     have e0 : args'[0]? = some (.iface t v') := by rw [← Array.getElem?_toList, e]; rfl
     refine ⟨f, _, _, h3, h4, ?_, hl⟩
     simp only [invoke, e0, callMethod, Sem.run_bind, run_program, Result.andThen_ok, hk, h1]
     exact h5
   ·cases he
  ·cases he
 ·cases he

theorem aC8 (R : Rel G B w0 ρ h w) {t : TypeId} {x x' v : Value} {argTypes : Array TypeId} {ty : TypeId} (ht : argTypes[0]? = some t) (hl : aFc P t x h = some v) (hx : bA ρ x x') :
  (Builtin.len_ argTypes ty #[x']).run P w = .ok v w ∧ bA ρ v v := by
 unfold aFc at hl
 split at hl
 ·rename_i s hu
  cases hl; cases hx
  exact ⟨by simp [Builtin.len_, ht, run_underlying hu, goInt], .int _ _⟩
 ·rename_i n e hu
  cases hl
  refine ⟨?_, .int _ _⟩
  cases x' <;> simp [Builtin.len_, ht, run_underlying hu, goInt]
 ·rename_i e a0 n es hu
  cases hl
  refine ⟨?_, .int _ _⟩
  cases hx <;> simp [Builtin.len_, ht, run_underlying hu, goInt]
 ·rename_i k e hu
  cases hl; cases hx
  exact ⟨by simp [Builtin.len_, ht, run_underlying hu, goInt], .int _ _⟩
 ·rename_i k e r hu
  split at hl
  ·rename_i es ho
   cases hl
   cases hx with
   | map hi =>
    obtain ⟨_, es', c, hb, he⟩ := R.live _ _ _ _ _ hi ho
    refine ⟨?_, .int _ _⟩
    have : es'.size = es.length := by have := he.1.1; simp at this; omega
    simp [Builtin.len_, ht, run_underlying hu, MapKept.run_getObj_map hb, goInt, this]
  ·cases hl
 ·cases hl

theorem wU {b : Bool} {args : List Value} {args' : Array Value} {v : Value} (hm : aBm b args = some v) (ha : bP ρ args args'.toList) (argTypes : Array TypeId) (ty : TypeId) (w : World) :
  (if b then Builtin.max_ argTypes ty args' else Builtin.min_ argTypes ty args').run P w = .ok v w ∧ bA ρ v v := by
 unfold aBm at hm
 split at hm
 ·rename_i k x k' y
  obtain ⟨x', l, e, hx, hl⟩ := ha.cons_inv
  obtain ⟨y', l', rfl, hy, hl'⟩ := hl.cons_inv
  obtain rfl := hl'.dN
  cases hx; cases hy
  cases b <;> simp at hm <;> subst hm
  ·exact ⟨by simp [Builtin.min_, e, Builtin.min2], .int _ _⟩
  ·exact ⟨by simp [Builtin.max_, e, Builtin.max2], .int _ _⟩
 ·cases hm

end
end Go.Am
end

section
namespace Go.Am
open Go.RowKit (Below)

def aJd (ρ : Ren) (k : Value) (es' : List MapEntry) (i : Nat) : Option (Nat × Value) → Option (Nat × Value) → Prop
 | none, none => True
 | some (j, v), some (j', v') => j = j' ∧ i ≤ j ∧ bA ρ v v' ∧ ∃ e, es'[j - i]? = some e ∧ e.key = k
 | _, _ => False

section
variable {G B : Nat} {w0 : World} {ρ : Ren} {h : aA} {w : World} {P : Program} {env : Env} {a : Act}

theorem rE {d : TypeDesc} {k v0 : Value} {e : MapEntry} {es' : List MapEntry} {i : Nat} {r : Option (Nat × Value)} (hvv : bA ρ v0 e.val) {rest : Option (Option (Nat × Value))}
  (ih : rest = some r → ∃ r', Instr.findNow d k es' (i + 1) = some r' ∧ aJd ρ k es' (i + 1) r r') (same : Bool) (hs : Instr.sameNow d k e.key = some same) (heq : same = true → e.key = k)
  (hr : (if same then some (some (i, v0)) else rest) = some r) : ∃ r', Instr.findNow d k (e :: es') i = some r' ∧ aJd ρ k (e :: es') i r r' := by
 cases same with
 | true =>
  simp at hr; subst hr
  exact ⟨some (i, e.val), by simp [Instr.findNow, hs], rfl, Nat.le_refl _, hvv, e, by simp, heq rfl⟩
 | false =>
  simp at hr
  obtain ⟨r', h1, h2⟩ := ih hr
  refine ⟨r', by simp [Instr.findNow, hs, h1], ?_⟩
  cases r with
  | none => cases r' with
   | none => trivial
   | some y => exact h2
  | some x => cases r' with
   | none => exact h2
   | some y =>
    obtain ⟨e1, e2, e3, z, e4, e5⟩ := h2
    refine ⟨e1, by omega, e3, z, ?_, e5⟩
    rw [show x.1 - i = (x.1 - (i + 1)) + 1 by omega]
    simpa using e4

theorem mN {d : TypeDesc} {k : Value} (hk : MapKept.IsKey d k) : ∀ {es : List (Value × Value)} {es' : List MapEntry} {i : Nat} {r : Option (Nat × Value)}, qW k es i = some r → xT ρ es es' →
  ∃ r', Instr.findNow d k es' i = some r' ∧ aJd ρ k es' i r r'
 | [], es', i, r, hf, he => by
  simp [qW] at hf; subst hf
  have := he.1.1
  simp at this
  obtain rfl := List.eq_nil_of_length_eq_zero this.symm
  exact ⟨none, rfl, trivial⟩
 | (k0, v0) :: es, [], i, r, hf, he => by have := he.1.1; simp at this
 | (k0, v0) :: es, e :: es', i, r, hf, he => by
  have hkk : bA ρ k0 e.key := he.1.2 0 k0 e.key (by simp) (by simp)
  have hvv : bA ρ v0 e.val := he.2.2 0 v0 e.val (by simp) (by simp)
  have he' : xT ρ es es' := ⟨by simpa using he.1.drop 1, by simpa using he.2.drop 1⟩
  have ih : qW k es (i + 1) = some r → _ := fun hr => mN (r := r) hk hr he'
  obtain ⟨key, val, born⟩ := e
  unfold qW at hf
  split at hf
  ·cases hkk
   split at hf
   ·rename_i hq
    subst hq
    cases d <;> simp [MapKept.IsKey] at hk
    refine rE hvv ih _ (by first | (simp [Instr.sameNow]; done) | (simp [Instr.sameNow]; rfl)) (by first | (simp; done) | (simp; intro h; exact h.symm)) (by simpa using hf)
   ·cases hf
  ·cases hkk
   cases d <;> simp [MapKept.IsKey] at hk
   refine rE hvv ih _ (by first | (simp [Instr.sameNow]; done) | (simp [Instr.sameNow]; rfl)) (fun h => ?_) hf
   rw [(MapKept.bytes_beq _ _).1 h]
  ·cases hkk
   cases d <;> simp [MapKept.IsKey] at hk
   refine rE hvv ih _ (by first | (simp [Instr.sameNow]; done) | (simp [Instr.sameNow]; rfl)) (by first | (simp; done) | (simp; intro h; exact h.symm)) (by simpa using hf)
  ·cases hf

theorem wP {t : TypeId} {k : Value} (hk : aFa P t k = true) : ∃ d, P.underlying t = some d ∧ MapKept.IsKey d k := by
 unfold aFa at hk
 split at hk
 ·rename_i q q' n hu; exact ⟨_, hu, by simpa [MapKept.IsKey] using hk⟩
 ·rename_i s hu; exact ⟨_, hu, trivial⟩
 ·rename_i b hu; exact ⟨_, hu, trivial⟩
 ·cases hk

theorem aBe {t : TypeId} {k k' : Value} (hk : aFa P t k = true) (hv : bA ρ k k') : k' = k := by
 unfold aFa at hk
 split at hk
 ·cases hv; rfl
 ·cases hv; rfl
 ·cases hv; rfl
 ·cases hk

theorem aBj (R : Rel G B w0 ρ h w) {m m' : Value} {es : List (Value × Value)} (hm : mapOf h m = some es) (hv : bA ρ m m') :
  (m' = .map none ∧ es = []) ∨ ∃ r es' c, m' = .map (some r) ∧ w.heap[r]? = some (.map es' c) ∧ xT ρ es es'.toList := by
 unfold mapOf at hm
 split at hm
 ·cases hm; cases hv; exact .inl ⟨rfl, rfl⟩
 ·split at hm
  ·rename_i r es0 ho
   cases hm
   cases hv with
   | map hi =>
    obtain ⟨_, es', c, hb, he⟩ := R.live _ _ _ _ _ hi ho
    exact .inr ⟨_, es', c, rfl, hb, he⟩
  ·cases hm
 ·cases hm

theorem yB (R : Rel G B w0 ρ h w) {t : TypeId} {m m' k k' v : Value} {ok : Bool} (hl : vG P t m k ok h = some v) (hm : bA ρ m m') (hk : bA ρ k k') :
    ∃ v', (Instr.lookup t m' k' ok).run P w = .ok v' w ∧ bA ρ v v' := by
  have hpair : ∀ {v v' : Value} (b : Bool), bA ρ v v' → bA ρ (.tuple #[v, .bool b]) (.tuple #[v', .bool b]) := fun b hv => bA.gX.2 (.cons hv (.cons (.bool _) (.nil _)))
  have hfin : ∀ {v v' : Value} (b : Bool), bA ρ v v' → bA ρ (if ok then .tuple #[v, .bool b] else v) (if ok then .tuple #[v', .bool b] else v') := by
    intro v v' b hv; cases ok
    · exact hv
    · exact hpair b hv
  unfold vG at hl
  split at hl
  · rename_i kt e hu
    split at hl
    · rename_i hkt
      obtain ⟨d, hd, hkey⟩ := wP hkt
      obtain rfl := aBe hkt hk
      split at hl
      · rename_i es hes
        have hfk : ∀ {es' : List MapEntry}, xT ρ es es' → ∀ {r}, qW k' es 0 = some r → ∃ r', (Instr.findKey kt k' es').run P w = .ok r' w ∧ aJd ρ k' es' 0 r r' := by
          intro es' he r hr
          obtain ⟨r', h1, h2⟩ := mN hkey hr he
          exact ⟨r', MapKept.run_findKey hd h1, h2⟩
        have hck : ∀ b : Bool, (Instr.checkKey b 10000 kt k').run P w = .ok () w := fun b => MapKept.run_checkKey hd hkey b 9999
        have main : ∀ (es' : Array MapEntry), xT ρ es es'.toList → (∀ v', (do
              Instr.checkKey es'.isEmpty 10000 kt k'
              let (v, b) ← match ← Instr.findKey kt k' es'.toList with
                | some (_, v) => pure (v, true)
                | none => pure (← zeroValue e, false)
              pure (if ok then Value.tuple #[v, .bool b] else v) : Sem Value).run P w = .ok v' w → (Instr.lookup t m' k' ok).run P w = .ok v' w) →
            ∃ v', (Instr.lookup t m' k' ok).run P w = .ok v' w ∧ bA ρ v v' := by
          intro es' he hrun
          split at hl
          · rename_i j v0 hf
            cases hl
            obtain ⟨r', h1, h2⟩ := hfk he hf
            cases r' with
            | none => exact h2.elim
            | some x =>
              obtain ⟨_, _, hv, _⟩ := h2
              refine ⟨_, hrun _ ?_, hfin true hv⟩
              simp [hck, h1]
          · rename_i hf
            cases hz : gC P e with
            | none => simp [hz] at hl
            | some z =>
              simp [hz] at hl; subst hl
              obtain ⟨hz1, hz2⟩ := dW (ρ := ρ) hz w
              obtain ⟨r', h1, h2⟩ := hfk he hf
              cases r' with
              | none =>
                refine ⟨_, hrun _ ?_, hfin false hz2⟩
                simp [hck, h1, hz1]
              | some x => exact h2.elim
          · cases hl
        rcases aBj R hes hm with ⟨rfl, rfl⟩ | ⟨r, es', c, rfl, hb, he⟩
        · refine main #[] ⟨.nil _, .nil _⟩ fun v' hv' => ?_
          simp only [Instr.lookup, Sem.run_bind, run_underlying hu, Result.andThen_ok, Sem.run_pure] at hv' ⊢
          exact hv'
        · refine main es' he fun v' hv' => ?_
          simp only [Instr.lookup, Sem.run_bind, run_underlying hu, Result.andThen_ok, MapKept.run_getObj_map hb, Sem.run_pure] at hv' ⊢
          exact hv'
      · cases hl
    · cases hl
  · cases hl

theorem q7 (R : Rel G B w0 ρ h w) {t : TypeId} {m m' k k' x x' : Value} {h' : aA} (hl : oT P t m k x h = some h') (hm : bA ρ m m') (hk : bA ρ k k') (hx : bA ρ x x') :
  ∃ w', (Instr.mapUpdate t m' k' x').run P w = .ok () w' ∧ Rel G B w0 ρ h' w' := by
 unfold oT at hl
 split at hl
 ·rename_i kt e r hu
  split at hl
  ·rename_i hkt
   obtain ⟨d, hd, hkey⟩ := wP hkt
   obtain rfl := aBe hkt hk
   split at hl
   ·rename_i es ho
    cases hm with
    | @map _ b base n hi =>
     obtain ⟨hB, es', c, hb, he⟩ := R.live _ _ _ _ _ hi ho
     have hck : ∀ b : Bool, (Instr.checkKey b 10000 kt k').run P w = .ok () w := fun b => MapKept.run_checkKey hd hkey b 9999
     have bL : ∀ (es2 : Array MapEntry) (c2 : Nat) (es3 : List (Value × Value)), xT ρ es3 es2.toList →
       Rel G B w0 ρ (h.put r (some (.map es3))) { w with heap := w.heap.setIfInBounds b (.map es2 c2) } := by
      intro es2 c2 es3 he3
      have hlt : b < w.heap.size := (R.qT _ _ _ _ hi).2
      refine R.update (w' := { w with heap := w.heap.setIfInBounds b (.map es2 c2) }) hi ho rfl rfl rfl rfl (by simp) (fun k hk => by simp [Ne.symm hk]) ((show _ = none by simp [World.shape?, hlt]).trans (show none = w.shape? b by unfold World.shape?; rw [hb])) fun o eo => ?_
      cases eo
      exact ⟨⟨hB, es2, c2, by simp [hlt], he3⟩, rfl⟩
     split at hl
     ·rename_i i v0 hf
      cases hl
      obtain ⟨r', h1, h2⟩ := mN hkey hf he
      cases r' with
      | none => exact h2.elim
      | some y =>
       obtain ⟨e1, _, _, z, hz, hzk⟩ := h2
       simp only [Nat.sub_zero] at hz
       obtain ⟨j, yv⟩ := y
       simp only at e1
       subst e1
       have hfk := MapKept.run_findKey (w := w) (P := P) hd h1
       have hzi : es'[i]? = some z := by rw [← Array.getElem?_toList]; exact hz
       refine ⟨_, ?_, bL (es'.modify i fun q => { q with key := k', val := x' }) c (es.set i (k', x)) ?_⟩
       ·simp [Instr.mapUpdate, run_underlying hu, MapKept.run_getObj_map hb, hck, hfk, hzi, hzk, MapKept.run_keyThatStays hkey, MapKept.run_setObj_map _ hb]
       ·have hmod : (es'.modify i fun q => { q with key := k', val := x' }).toList = es'.toList.set i { z with key := k', val := x' } := by
         rw [Array.toList_modify]
         apply List.ext_getElem?
         intro q
         rw [List.getElem?_modify, List.getElem?_set]
         by_cases hq : i = q
         ·subst hq
          have : i < es'.toList.length := (List.getElem?_eq_some_iff.1 hz).1
          simp only [if_true]
          rw [hz, if_pos this]; rfl
         ·simp [hq]
        rw [hmod]
        refine ⟨?_, ?_⟩
        ·rw [List.map_set, List.map_set]
         exact he.1.set i hk
        ·rw [List.map_set, List.map_set]
         exact he.2.set i hx
     ·rename_i hf
      cases hl
      obtain ⟨r', h1, h2⟩ := mN hkey hf he
      cases r' with
      | some y => exact h2.elim
      | none =>
       have hfk := MapKept.run_findKey (w := w) (P := P) hd h1
       refine ⟨_, ?_, bL (es'.push { key := k', val := x', born := c }) (c + 1) (es ++ [(k', x)]) ?_⟩
       ·simp [Instr.mapUpdate, run_underlying hu, MapKept.run_getObj_map hb, hck, hfk, MapKept.run_setObj_map _ hb]
       ·rw [Array.toList_push]
        refine ⟨?_, ?_⟩
        ·simpa using he.1.append (.cons hk (.nil _))
        ·simpa using he.2.append (.cons hx (.nil _))
     ·cases hl
   ·cases hl
  ·cases hl
 ·cases hl


theorem u4 {v v' x : Value} (hn : nW P v = some x) (hv : bA ρ v v') (ev : Operand → Value) (o : Oper) (y : Operand) (ho : o.op = .nilCheck y) (hy : ev y = v') (w : World) :
  (execOp ev o).run P w = .ok (.value v') w ∧ bA ρ x v' := by
 unfold nW at hn
 split at hn
 ·cases hn
  refine ⟨?_, hv⟩
  cases hv
  simp [execOp, ho, hy]
 ·cases hn
  refine ⟨?_, hv⟩
  cases hv
  simp [execOp, ho, hy]
 ·cases hn
  refine ⟨?_, hv⟩
  cases hv
  simp [execOp, ho, hy]
 ·rename_i name f c
  split at hn
  ·rename_i t u rest hfl
   split at hn
   ·rename_i r hm
    obtain ⟨fid, rv⟩ := r
    split at hn
    ·cases hn
    ·rename_i hnp
     cases hn
     refine ⟨?_, hv⟩
     cases hv with
     | @func _ _ f' _ c' h1 h2 h3 h4 =>
      have hff := (bA.lZ.1 (bA.func (fn := .method name) h1 h2 h3 h4)).1
      rw [hfl] at hff
      obtain ⟨x', l', e, hx, _⟩ := hff.cons_inv
      cases hx with
      | @iface _ _ u' hu =>
       have e0 : f'[0]? = some (.iface t u') := by rw [← Array.getElem?_toList, e]; rfl
       have hfuel : ∃ k, P.types.size + Made.depth = k + 1 := ⟨P.types.size + 99, by simp [Made.depth]⟩
       obtain ⟨k, hk⟩ := hfuel
       have hah : (nilAhead (k + 1) t u' name).run P w = .ok (some false) w := by
        unfold oK at hm
        split at hm
        ·rename_i i hi
         split at hm
         ·rename_i m hf
          split at hm
          ·rename_i hp
           have hpl : m.path.toList = [] := by
            have : m.path = #[] := by simpa using hp
            rw [this]
           split at hm
           ·rename_i g ptr hg
            cases ptr with
            | true => simp [nilAhead, typeInfo, hi, hf, hpl, followBlind, hg]
            | false =>
             split at hm
             ·cases hm
             ·rename_i d hd hud
              have : ∀ (e : TypeId), d ≠ .pointer e := fun e he => hd e he
              cases d <;> first | exact (this _ rfl).elim | simp [nilAhead, typeInfo, hi, hf, hpl, followBlind, hg, run_underlying hud]
             ·cases hm
           ·cases hm
          ·cases hm
         ·cases hm
        ·cases hm
       simp [execOp, ho, hy, e0, hk, hah]
   ·cases hn
  ·cases hn
 ·cases hn

theorem aAs (R : Rel G B w0 ρ h w) {argTypes : Array TypeId} {args : List Value} {args' : Array Value} {v : Value} {h' : aA} (hc : rZ P argTypes args h = some (v, h')) (ha : bP ρ args args'.toList) (ty : TypeId) :
  ∃ w', (Builtin.copy_ argTypes ty args').run P w = .ok v w' ∧ Rel G B w0 ρ h' w' ∧ bA ρ v v := by
 unfold rZ at hc
 split at hc
 case h_2 => cases hc
 rename_i dType b dLen es src ht
 obtain ⟨d', l, e, hd, hl⟩ := ha.cons_inv
 obtain ⟨s', l', rfl, hs, hl'⟩ := hl.cons_inv
 obtain rfl := hl'.dN
 have e0 : args'[0]? = some d' := by rw [← Array.getElem?_toList, e]; rfl
 have e1 : args'[1]? = some s' := by rw [← Array.getElem?_toList, e]; rfl
 split at hc
 case h_2 => cases hc
 rename_i el hu
 split at hc
 case h_2 => cases hc
 rename_i n hn
 split at hc
 ·cases hc
 rename_i hn0
 -- the destination's shape
 have hdst : ∃ b' cap, d' = .slice b' dLen cap ∧ (∀ i off, b = some ⟨i, off, none⟩ → 0 < dLen → ∃ bb base N, b' = some ⟨bb, base + off, none⟩ ∧ ρ i = some (bb, base, N)) := by
  cases hd with
  | gQ => exact ⟨none, 0, rfl, fun i off hi => by cases hi⟩
  | @slice i off _ _ bb off' cap hcl halt =>
   refine ⟨_, cap, rfl, fun i2 off2 hi h0 => ?_⟩
   cases hi
   rcases halt with h1 | ⟨base, N, h1, rfl, h2⟩
   ·omega
   ·exact ⟨bb, base, N, rfl, h1⟩
 obtain ⟨b', cap, rfl, hdst⟩ := hdst
 split at hc
 ·rename_i sb sLen es'
  have hsl : ∃ sb' scap, s' = .slice sb' sLen scap ∧ (∀ j off, sb = some ⟨j, off, none⟩ → 0 < sLen → ∃ bb base N, sb' = some ⟨bb, base + off, none⟩ ∧ ρ j = some (bb, base, N)) ∧ (sb' = none → sLen = 0) := by
   cases hs with
   | gQ => exact ⟨none, 0, rfl, (fun i off hi => by cases hi), fun _ => rfl⟩
   | @slice i off _ _ bb off' scap hcl halt =>
    refine ⟨_, scap, rfl, (fun i2 off2 hi h0 => ?_), fun hh => by cases hh⟩
    cases hi
    rcases halt with h1 | ⟨base, N, h1, rfl, h2⟩
    ·omega
    ·exact ⟨bb, base, N, rfl, h1⟩
  obtain ⟨sb', scap, rfl, hsl, hsn⟩ := hsl
  simp only at hc
  split at hc
  ·rename_i hk
   cases hc
   refine ⟨w, ?_, R, .int _ _⟩
   cases sb' <;> cases b' <;> simp [Builtin.copy_, ht, e0, e1, run_underlying hu, Builtin.lenOf, dL hn, hk, Builtin.firstCells, loadCells, loadCellsFrom, goInt, storeCells]
  ·rename_i hk
   split at hc
   case h_2 => cases hc
   rename_i i off j off'
   split at hc
   case isFalse => cases hc
   rename_i hes
   simp only [Bool.and_eq_true, decide_eq_true_eq] at hes
   split at hc
   case h_2 => cases hc
   rename_i vs hvs
   cases hst : h.store i off vs with
   | none => simp [hst] at hc
   | some h2 =>
    simp only [hst, Option.map_some, Option.some.injEq, Prod.mk.injEq] at hc
    obtain ⟨rfl, rfl⟩ := hc
    have hd0 : 0 < dLen := by
     rcases Nat.eq_zero_or_pos dLen with h | h
     ·rw [h] at hk; simp at hk
     ·exact h
    have hs0 : 0 < sLen := by
     rcases Nat.eq_zero_or_pos sLen with h | h
     ·rw [h] at hk; simp at hk
     ·exact h
    obtain ⟨bb, base, N, rfl, hi⟩ := hdst i off rfl hd0
    obtain ⟨bb2, base2, N2, rfl, hj⟩ := hsl j off' rfl hs0
    obtain ⟨hlen, _, vs', hv, hcell⟩ := R.cells hj hvs
    obtain ⟨hrun, hR⟩ := R.store (P := P) hi hst hv
    have hl := run_loadCells_list (P := P) w ⟨bb2, base2 + off', none⟩ vs' (fun j v hv => by rw [iD]; exact hcell j v hv)
    rw [← hv.1, hlen] at hl
    refine ⟨_, ?_, hR, .int _ _⟩
    simp [Builtin.copy_, ht, e0, e1, run_underlying hu, Builtin.lenOf, dL hn, Builtin.firstCells, hl, hrun, goInt]
 ·cases hc

theorem tB {t : TypeId} {m k x : Value} {h' : aA} (hl : oT P t m k x h = some h') : h'.next = h.next := by
 unfold oT at hl
 split at hl
 ·split at hl
  ·split at hl
   ·split at hl <;> first | (cases hl; done) | (cases hl; rfl)
   ·cases hl
  ·cases hl
 ·cases hl

theorem aCt {argTypes : Array TypeId} {args : List Value} {v : Value} {h' : aA} (hc : rZ P argTypes args h = some (v, h')) : h'.next = h.next := by
 unfold rZ at hc
 split at hc
 case h_2 => cases hc
 split at hc
 case h_2 => cases hc
 split at hc
 case h_2 => cases hc
 split at hc
 ·cases hc
 split at hc
 ·simp only at hc
  split at hc
  ·cases hc; rfl
  ·split at hc
   case h_2 => cases hc
   split at hc
   case isFalse => cases hc
   split at hc
   case h_2 => cases hc
   rename_i vs _
   rename_i i off _ _ _ _ _
   cases hst : h.store i off vs with
   | none => simp [hst] at hc
   | some h2 =>
    simp only [hst, Option.map_some, Option.some.injEq, Prod.mk.injEq] at hc
    obtain ⟨_, rfl⟩ := hc
    exact aA.xE hst
 ·cases hc

end
end Go.Am
end

section
namespace Go.Am
open Go.RowKit (Below)

section
variable {G B : Nat} {w0 : World} {ρ : Ren} {h : aA} {w : World} {P : Program} {env : Env} {a : Act}

theorem aAl (R : Rel G B w0 ρ h w) (he : mV ρ env a) {c : Call} {o : Oper} (ho : o.op = .call c) {r : mF} (hc : iF P G env c h = some r) :
  Out P G B w0 ρ h w ((execOp a.eval o).run P w) r := by
 unfold iF at hc
 split at hc
 ·cases hc
 rename_i args hargs
 have hA := iH R he hargs
 split at hc
 ·rename_i f hcal
  split at hc
  ·rename_i fn first captured hf
   have hF := aX R he hf
   generalize hev : a.eval f = fv at hF
   cases hF with
   | @func _ _ f' _ c' h1 h2 h3 h4 =>
    obtain ⟨hff, hcc⟩ := bA.lZ.1 (bA.func (fn := fn) h1 h2 h3 h4)
    have hl : bP ρ (first.toList ++ args) (f' ++ c.args.map a.eval).toList := by
     rw [Array.toList_append, Array.toList_map]; exact hff.append hA
    obtain ⟨g, as, as', rfl, hb, hrun, hlr⟩ := qZ hc hl hcc w
    refine ⟨hb, as', ?_, hlr⟩
    simp only [execOp, ho, Sem.run_bind, resolve, hcal, hev, Deferred.ofValue, Sem.run_pure, Result.andThen_ok]
    exact hrun
  ·cases hc
 ·rename_i recv name hcal
  split at hc
  ·rename_i v hv
   have hV := aX R he hv
   have hl : bP ρ (v :: args) (#[a.eval recv] ++ c.args.map a.eval).toList := by
    rw [Array.toList_append, Array.toList_map]; exact .cons hV hA
   obtain ⟨g, as, as', rfl, hb, hrun, hlr⟩ := qZ (captured' := #[]) hc hl (.nil _) w
   refine ⟨hb, as', ?_, hlr⟩
   simp only [execOp, ho, Sem.run_bind, resolve, hcal, Sem.run_pure, Result.andThen_ok]
   exact hrun
  ·cases hc
 ·rename_i b hcal
  obtain ⟨cs, hres0⟩ : ∃ cs : Array Bool, resolve a.eval c o.type = Pure.pure { target := .builtin b c.argTypes o.type cs, args := c.args.map a.eval } := by
   simp only [resolve, hcal]; exact ⟨_, rfl⟩
  have hres : ∀ (K : Deferred → Sem Next), ((resolve a.eval c o.type) >>= K).run P w = (K { target := .builtin b c.argTypes o.type cs, args := c.args.map a.eval }).run P w := fun K => by
   rw [hres0]; simp
  have hargs' : (c.args.map a.eval).toList = c.args.toList.map a.eval := by rw [Array.toList_map]
  split at hc
  ·cases hap : eR P c.argTypes args h with
   | none => simp [hap] at hc
   | some x =>
    obtain ⟨v, h'⟩ := x
    simp [hap] at hc; subst hc
    obtain ⟨v', w', ρ', hrun, hle, hR, hv⟩ := xV (P := P) R hap hA o.type
    refine ⟨v', w', ρ', ?_, hle, hR, hv⟩
    simp only [execOp, ho, hres, invoke, builtin]
    have : c.args.map a.eval = (c.args.toList.map a.eval).toArray := by rw [← hargs']
    rw [this]
    simp [hrun]
  ·split at hc
   ·rename_i t x ht
    cases hl : aFc P t x h with
    | none => simp [hl] at hc
    | some v =>
     simp [hl] at hc; subst hc
     obtain ⟨x', l', e, hx, hn⟩ := hA.cons_inv
     obtain rfl := hn.dN
     obtain ⟨hrun, hv⟩ := aC8 (ty := o.type) R ht hl hx
     refine Out.same R hv ?_
     have : c.args.map a.eval = #[x'] := by apply Array.ext'; rw [hargs', e]
     simp only [execOp, ho, hres, invoke, builtin, this]
     simp [hrun]
   ·cases hc
  ·cases hcp : rZ P c.argTypes args h with
   | none => simp [hcp] at hc
   | some x =>
    obtain ⟨v, h'⟩ := x
    simp [hcp] at hc; subst hc
    rw [← hargs'] at hA
    obtain ⟨w', hrun, hR, hv⟩ := aAs (P := P) R hcp hA o.type
    refine ⟨v, w', ρ, ?_, Ext.same _ (aCt hcp), hR, hv⟩
    simp only [execOp, ho, hres, invoke, builtin]
    simp [hrun]
  ·cases hm : aBm true args with
   | none => simp [hm] at hc
   | some v =>
    simp [hm] at hc; subst hc
    rw [← hargs'] at hA
    obtain ⟨hrun, hv⟩ := wU (P := P) hm hA c.argTypes o.type w
    refine Out.same R hv ?_
    simp at hrun
    simp only [execOp, ho, hres, invoke, builtin]
    simp [hrun]
  ·cases hm : aBm false args with
   | none => simp [hm] at hc
   | some v =>
    simp [hm] at hc; subst hc
    rw [← hargs'] at hA
    obtain ⟨hrun, hv⟩ := wU (P := P) hm hA c.argTypes o.type w
    refine Out.same R hv ?_
    simp at hrun
    simp only [execOp, ho, hres, invoke, builtin]
    simp [hrun]
  ·split at hc
   ·rename_i t v
    cases hc
    obtain ⟨x', l', e, hx, hn⟩ := hA.cons_inv
    obtain rfl := hn.dN
    have : c.args.map a.eval = #[x'] := by apply Array.ext'; rw [hargs', e]
    refine ⟨x', ?_, hx⟩
    cases hx
    simp only [execOp, ho, hres, invoke, builtin, this]
    simp [Instr.panic]
   ·cases hc
  ·cases hc

theorem nX (R : Rel G B w0 ρ h w) (he : mV ρ env a) {o : Oper} {r : mF} (hr : c6 P G env o h = some r) :
  Out P G B w0 ρ h w ((execOp a.eval o).run P w) r := by
 unfold c6 at hr
 split at hr
 ·rename_i x ho
  cases hx : aJ G env x with
  | none => simp [hx] at hr
  | some v => simp [hx] at hr; subst hr; exact Out.same R (aX R he hx) (by simp [execOp, ho])
 ·rename_i x ho
  cases hx : aJ G env x with
  | none => simp [hx] at hr
  | some v => simp [hx] at hr; subst hr; exact Out.same R (aX R he hx) (by simp [execOp, ho])
 ·rename_i c x y ho
  split at hr
  ·rename_i hc
   have hcv := aX R he hc
   cases hx : aJ G env x with
   | none => simp [hx] at hr
   | some v =>
    simp [hx] at hr; subst hr
    generalize hec : a.eval c = cv at hcv
    cases hcv
    exact Out.same R (aX R he hx) (by simp [execOp, ho, hec, asBool])
  ·rename_i hc
   have hcv := aX R he hc
   cases hx : aJ G env y with
   | none => simp [hx] at hr
   | some v =>
    simp [hx] at hr; subst hr
    generalize hec : a.eval c = cv at hcv
    cases hcv
    exact Out.same R (aX R he hx) (by simp [execOp, ho, hec, asBool])
  ·cases hr
 ·rename_i e ho
  cases hz : gC P e with
  | none => simp [hz] at hr
  | some z =>
   simp [hz] at hr; subst hr
   obtain ⟨h1, h2⟩ := dW (ρ := ρ) hz w
   obtain ⟨h3, h4⟩ := iT (P := P) R e h2.cells
   refine ⟨_, _, _, ?_, Ext.bL _ _ _ _, h4, bA.aDe _ _ _⟩
   simp [execOp, ho, Instr.alloc, h1, newVar, h3]
 ·rename_i e x ho
  cases hx : aJ G env x with
  | none => simp [hx] at hr
  | some v =>
   simp [hx] at hr; subst hr
   obtain ⟨h3, h4⟩ := iT (P := P) R e (aX R he hx).cells
   refine ⟨_, _, _, ?_, Ext.bL _ _ _ _, h4, bA.aDe _ _ _⟩
   simp [execOp, ho, Instr.box, newVar, h3]
 ·rename_i t parts ho
  split at hr
  ·rename_i ps hps
   have hp := iM R he hps
   cases hb : q9 P t ps with
   | none => simp [hb] at hr
   | some v =>
    simp [hb] at hr; subst hr
    obtain ⟨v', h1, h2⟩ := y5 hb hp w
    refine Out.same R h2 ?_
    have : (parts.map fun (i, x) => (i, a.eval x)) = (parts.toList.map fun (i, x) => (i, a.eval x)).toArray := by apply Array.ext'; rw [Array.toList_map]
    simp only [execOp, ho]
    rw [this]
    simp at h1
    simp [h1]
  ·cases hr
 ·rename_i t len parts ho
  split at hr
  ·rename_i ps hps
   have hp := iM R he hps
   cases hb : fD P t len ps h with
   | none => simp [hb] at hr
   | some x =>
    obtain ⟨v, h'⟩ := x
    simp [hb] at hr; subst hr
    obtain ⟨v', w', ρ', h1, h2, h3, h4⟩ := rW R hb hp
    refine ⟨v', w', ρ', ?_, h2, h3, h4⟩
    have : (parts.map fun (i, x) => (i, a.eval x)) = (parts.toList.map fun (i, x) => (i, a.eval x)).toArray := by apply Array.ext'; rw [Array.toList_map]
    simp only [execOp, ho]
    rw [this]
    simp at h1
    simp [h1]
  ·cases hr
 ·rename_i t x ho
  split at hr
  ·rename_i i off hx
   have hv := aX R he hx
   cases hl : pS P t i off h with
   | none => simp [hl] at hr
   | some v =>
    simp [hl] at hr; subst hr
    generalize hec : a.eval x = cv at hv
    cases hv with
    | ptr hi =>
     obtain ⟨v', h1, h2⟩ := uM (P := P) R hi hl
     exact Out.same R h2 (by simp [execOp, ho, hec, Instr.loadAt, Instr.sureAddr, h1])
  ·cases hr
 ·rename_i t x y ho
  split at hr
  ·rename_i i off v hx hy
   have hv := aX R he hx
   have hvy := aX R he hy
   cases hl : fW P t i off v h with
   | none => simp [hl] at hr
   | some h' =>
    simp [hl] at hr; subst hr
    generalize hec : a.eval x = cv at hv
    cases hv with
    | ptr hi =>
     obtain ⟨w', h1, h2⟩ := oR (P := P) R hi hl hvy
     exact ⟨w', ρ, by simp [execOp, ho, hec, Instr.storeAt, Instr.sureAddr, h1], Ext.same _ (p7 hl), h2⟩
  ·cases hr
 ·rename_i x ho
  split at hr
  ·rename_i v hx
   cases hn : nW P v with
   | none => simp [hn] at hr
   | some y =>
    simp [hn] at hr; subst hr
    obtain ⟨h1, h2⟩ := u4 hn (aX R he hx) a.eval o x ho rfl w
    exact Out.same R h2 h1
  ·cases hr
 ·rename_i op t x y yt ho
  split at hr
  ·rename_i u v hx hy
   split at hr
   ·rename_i hq
    cases hb : nL P op t u v with
    | none => simp [hb] at hr
    | some z =>
     simp [hb] at hr; subst hr
     obtain ⟨h1, h2⟩ := aCo hb (aX R he hx) (aX R he hy) w
     have hg := aA5 hq (aX R he hx) (aX R he hy) w
     exact Out.same R h2 (by simp [execOp, ho, hg, h1])
   ·cases hr
  ·cases hr
 ·rename_i op t x ho
  split at hr
  ·rename_i v hx
   cases hb : unA op v with
   | none => simp [hb] at hr
   | some z =>
    simp [hb] at hr; subst hr
    obtain ⟨h1, h2⟩ := aF4 (P := P) hb (aX R he hx) w
    exact Out.same R h2 (by simp [execOp, ho, h1])
  ·cases hr
 ·rename_i s d x ho
  split at hr
  ·rename_i v hx
   cases hb : iG P s d v h with
   | none => simp [hb] at hr
   | some z =>
    obtain ⟨z, h'⟩ := z
    simp [hb] at hr; subst hr
    obtain ⟨v', w', ρ', h1, h2, h3, h4⟩ := wD (P := P) R hb (aX R he hx)
    exact ⟨v', w', ρ', by simp [execOp, ho, h1], h2, h3, h4⟩
  ·cases hr
 ·rename_i t x ho
  split at hr
  ·cases hr
  ·rename_i d v hd hu hx
   cases hr
   refine Out.same R (.iface (aX R he hx)) ?_
   cases d <;> first | exact (hd _ rfl).elim | simp [execOp, ho, Instr.makeInterface, run_underlying hu]
  ·cases hr
 ·rename_i fn first captured ho
  split at hr
  ·rename_i f c hf hc
   cases hr
   refine Out.same R (bA.lZ.2 ⟨?_, ?_⟩) (by simp [execOp, ho, Instr.makeFunc]; exact ⟨rfl, rfl⟩)
   ·rw [Array.toList_map]; exact iH R he hf
   ·rw [Array.toList_map]; exact iH R he hc
  ·cases hr
 ·rename_i t ho
  cases hr
  have hb : Below w.heap.size w (w.alloc (.map #[] 0)) := (Below.refl _ _).alloc (Nat.le_refl _) _
  have R' := R.grow hb
  have R2 := R'.extend (b := w.heap.size) (base := 0) (n := 0) (o := .map []) (by simp) ⟨R.size, #[], 0, heap_alloc_new w _, .nil _, .nil _⟩ (fun j b' base' n' oj hj hoj => by
   have := (R.qT j b' base' n' hj).2
   omega)
  exact ⟨_, _, _, by simp [execOp, ho, Instr.makeMap]; rfl, Ext.bL _ _ _ _, R2, .map (by simp [Ren.bL]; exact ⟨rfl, rfl⟩)⟩
 ·rename_i t l c ho
  split at hr
  ·rename_i lv cv hl hc
   cases hb : gP P t lv cv h with
   | none => simp [hb] at hr
   | some z =>
    obtain ⟨z, h'⟩ := z
    simp [hb] at hr; subst hr
    obtain ⟨v', w', ρ', h1, h2, h3, h4⟩ := tN (P := P) R hb (aX R he hl) (aX R he hc)
    exact ⟨v', w', ρ', by simp [execOp, ho, h1], h2, h3, h4⟩
  ·cases hr
 ·rename_i t x lo hi ho
  split at hr
  ·rename_i v l hh hx hl hhi
   cases hb : iB P t v l.head? hh.head? with
   | none => simp [hb] at hr
   | some z =>
    simp [hb] at hr; subst hr
    have b1 : aCk ρ l.head? (lo.map a.eval) := by
     have := r5 R he hl
     unfold aCk; exact this
    have b2 : aCk ρ hh.head? (hi.map a.eval) := by
     have := r5 R he hhi
     unfold aCk; exact this
    obtain ⟨v', h1, h2⟩ := z6 (P := P) hb (aX R he hx) b1 b2 w
    exact Out.same R h2 (by simp [execOp, ho, h1])
  ·cases hr
 ·rename_i t x f ho
  split at hr
  ·rename_i v hx
   cases hb : j8 P t v f with
   | none => simp [hb] at hr
   | some z =>
    simp [hb] at hr; subst hr
    obtain ⟨v', h1, h2⟩ := tF (P := P) hb (aX R he hx) w
    exact Out.same R h2 (by simp [execOp, ho, h1])
  ·cases hr
 ·rename_i t x f ho
  split at hr
  ·rename_i v hx
   cases hb : rD P t v f with
   | none => simp [hb] at hr
   | some z =>
    simp [hb] at hr; subst hr
    obtain ⟨v', h1, h2⟩ := zE (P := P) hb (aX R he hx) w
    exact Out.same R h2 (by simp [execOp, ho, h1])
  ·cases hr
 ·rename_i t x i ho
  split at hr
  ·rename_i v k hx hk
   cases hb : kB P t v k with
   | none => simp [hb] at hr
   | some z =>
    simp [hb] at hr; subst hr
    obtain ⟨v', h1, h2⟩ := tH (P := P) hb (aX R he hx) (aX R he hk) w
    exact Out.same R h2 (by simp [execOp, ho, h1])
  ·cases hr
 ·rename_i t x i ho
  split at hr
  ·rename_i v k hx hk
   cases hb : tG P t v k with
   | none => simp [hb] at hr
   | some z =>
    simp [hb] at hr; subst hr
    obtain ⟨v', h1, h2⟩ := zG (P := P) hb (aX R he hx) (aX R he hk) w
    exact Out.same R h2 (by simp [execOp, ho, h1])
  ·cases hr
 ·rename_i t x k ok ho
  split at hr
  ·rename_i m kv hx hk
   cases hb : vG P t m kv ok h with
   | none => simp [hb] at hr
   | some z =>
    simp [hb] at hr; subst hr
    obtain ⟨v', h1, h2⟩ := yB (P := P) R hb (aX R he hx) (aX R he hk)
    exact Out.same R h2 (by simp [execOp, ho, h1])
  ·cases hr
 ·rename_i t m k x ho
  split at hr
  ·rename_i mv kv xv hm hk hx
   cases hb : oT P t mv kv xv h with
   | none => simp [hb] at hr
   | some h' =>
    simp [hb] at hr; subst hr
    obtain ⟨w', h1, h2⟩ := q7 (P := P) R hb (aX R he hm) (aX R he hk) (aX R he hx)
    exact ⟨w', ρ, by simp [execOp, ho, h1], Ext.same _ (tB hb), h2⟩
  ·cases hr
 ·rename_i t m k x ho
  split at hr
  ·rename_i mv kv xv hm hk hx
   cases hb : oT P t mv kv xv h with
   | none => simp [hb] at hr
   | some h' =>
    simp [hb] at hr; subst hr
    obtain ⟨w', h1, h2⟩ := q7 (P := P) R hb (aX R he hm) (aX R he hk) (aX R he hx)
    exact ⟨w', ρ, by simp [execOp, ho, h1], Ext.same _ (tB hb), h2⟩
  ·cases hr
 ·rename_i x xt t ok ho
  split at hr
  ·rename_i v hx
   cases hb : u9 P v t ok with
   | none => simp [hb] at hr
   | some z =>
    simp [hb] at hr; subst hr
    obtain ⟨v', h1, h2⟩ := xX (P := P) (xt := xt) hb (aX R he hx) w
    exact Out.same R h2 (by simp [execOp, ho, h1])
  ·cases hr
 ·rename_i t i ho
  split at hr
  ·rename_i vs hx
   have hv := aX R he hx
   cases hb : vs[i]? with
   | none => simp [hb] at hr
   | some v =>
    simp [hb] at hr; subst hr
    generalize hec : a.eval t = cv at hv
    cases hv with
    | @tuple _ vs' h1 h2 =>
     have hl := bA.gX.1 (bA.tuple h1 h2)
     obtain ⟨v', h3, h4⟩ := hl.get (j := i) (v := v) (by simpa using hb)
     have h5 : vs'[i]? = some v' := by simpa using h3
     exact Out.same R h4 (by simp [execOp, ho, hec, Instr.extract, h5])
  ·cases hr
 ·rename_i c ho
  exact aAl R he ho hr
 ·rename_i x ho
  split at hr
  ·rename_i t v hx
   cases hr
   have hv := aX R he hx
   refine ⟨a.eval x, ?_, hv⟩
   generalize hec : a.eval x = cv at hv
   cases hv
   simp [execOp, ho, hec, Instr.panic]
  ·cases hr
 ·cases hr

end
end Go.Am
end

section
namespace Go.Am
open Go.RowKit (Below)

inductive bR where
 | ret (v : Value) (h : aA)
 | panic (ch : List PanicEntry) (h : aA)

abbrev bK := FuncId → List Value → aA → Option bR

inductive jZ where
 | ok (env : Env) (h : aA)
 | panic (ch : List PanicEntry) (h : aA)

def dG (ops : Array Oper) (env : Env) (o : Oper) : Option Bool :=
 match o.guard with
 | none => some true
 | some (j, want) => match (ops[j]?).bind (·.dst) with
  | none => some false
  | some d => match env d with
   | some (.bool b) => some (b == want)
   | some _ => some false
   | none => none

def gE (n : Nat) (dst : Option Tmp) (v : Value) (env : Env) : Option Env :=
 match dst with
 | none => some env
 | some d => if d < n then some (fun t => if t = d then some v else env t) else none

def jD (P : Program) (G : Nat) (C : bK) (n : Nat) (ops : Array Oper) (o : Oper) (env : Env) (h : aA) : Option jZ :=
 match dG ops env o with
 | none => none
 | some false => (gE n o.dst undef env).map fun e => .ok e h
 | some true => match c6 P G env o h with
  | none => none
  | some (.val v h') => (gE n o.dst v env).map fun e => .ok e h'
  | some (.skip h') => (gE n o.dst undef env).map fun e => .ok e h'
  | some (.enter f args) => match C f args h with
   | none => none
   | some (.ret v h') => (gE n o.dst v env).map fun e => .ok e h'
   | some (.panic ch h') => some (.panic ch h')
  | some (.panic v) => some (.panic [{ v, recovered := false }] h)

def dT (P : Program) (G : Nat) (C : bK) (n : Nat) (ops : Array Oper) : List Nat → Env → aA → Option jZ
 | [], env, h => some (.ok env h)
 | i :: rest, env, h => match ops[i]? with
  | none => dT P G C n ops rest env h
  | some o => match jD P G C n ops o env h with
   | some (.ok env' h') => dT P G C n ops rest env' h'
   | r => r

def lS (ρ : Ren) : List PanicEntry → List PanicEntry → Prop
 | [], [] => True
 | e :: l, e' :: l' => bA ρ e.v e'.v ∧ e'.recovered = e.recovered ∧ e'.goexit = e.goexit ∧ lS ρ l l'
 | _, _ => False

theorem lS.mono {ρ ρ' : Ren} (hl : ρ.le ρ') : ∀ {l l' : List PanicEntry}, lS ρ l l' → lS ρ' l l'
 | [], [], _ => trivial
 | _ :: _, _ :: _, h => ⟨h.1.mono hl, h.2.1, h.2.2.1, lS.mono hl h.2.2.2⟩

def iP (G B : Nat) (w0 : World) (ρ : Ren) (h : aA) : bR → Ending → World → Prop
 | .ret v h', .returned v', w' => ∃ ρ', Ext ρ h ρ' h' ∧ Rel G B w0 ρ' h' w' ∧ bA ρ' v v'
 | .panic ch h', .panicked ch', w' => ∃ ρ', Ext ρ h ρ' h' ∧ Rel G B w0 ρ' h' w' ∧ lS ρ' ch ch'
 | _, _, _ => False

def hZ (P : Program) (G B : Nat) (w0 : World) (C : bK) : Prop :=
 ∀ f args h r, C f args h = some r → ∀ ρ w args', Rel G B w0 ρ h w → bP ρ args args'.toList → Calls P f args' w (iP G B w0 ρ h r)

structure bU (ρ : Ren) (n : Nat) (env : Env) (a : Act) : Prop where
 size : a.tmps.size = n
 lt : ∀ t v, env t = some v → t < n
 rel : mV ρ env a

section
variable {G B : Nat} {w0 : World} {ρ : Ren} {h : aA} {w : World} {P : Program} {env : Env} {a : Act} {n : Nat}

theorem bU.mono {ρ' : Ren} (hl : ρ.le ρ') (F : bU ρ n env a) : bU ρ' n env a := ⟨F.size, F.lt, fun t v ht => (F.rel t v ht).mono hl⟩

theorem bU.put (F : bU ρ n env a) {dst : Option Tmp} {v v' : Value} {env' : Env} (hp : gE n dst v env = some env') (hv : bA ρ v v') : bU ρ n env' (a.put dst v') := by
 unfold gE at hp
 split at hp
 ·cases hp; exact F
 ·rename_i d
  split at hp
  ·rename_i hd
   cases hp
   refine ⟨by simp [Act.put, F.size], fun t x ht => ?_, fun t x ht => ?_⟩
   ·change (if t = d then some v else env t) = some x at ht
    split at ht
    ·rename_i e; rw [e]; exact hd
    ·exact F.lt t x ht
   ·change (if t = d then some v else env t) = some x at ht
    split at ht
    ·rename_i e
     subst e
     cases ht
     simp only [Act.put]
     rw [Array.getD_eq_getD_getElem?, Array.getElem?_setIfInBounds_self_of_lt (by rw [F.size]; exact hd)]
     exact hv
    ·rename_i e
     simp only [Act.put]
     rw [Array.getD_eq_getD_getElem?, Array.getElem?_setIfInBounds_ne (fun k => e k.symm), ← Array.getD_eq_getD_getElem?]
     exact F.rel t x ht
  ·cases hp

theorem nJ (F : bU ρ n env a) {ops : Array Oper} {o : Oper} {b : Bool} (hw : dG ops env o = some b) : Region.wanted o (yielded ops a.tmps) = b := by
 unfold dG at hw
 unfold Region.wanted
 split at hw
 ·rename_i hg; cases hw; rw [hg]
 ·rename_i j want hg
  rw [hg]
  simp only
  split at hw
  ·rename_i hd
   cases hw
   simp [yielded, hd]
  ·rename_i d hd
   have hy : yielded ops a.tmps j = match a.tmps[d]? with | some (.bool b) => some b | _ => none := by
    unfold yielded; rw [hd]; rfl
   split at hw
   ·rename_i x he
    cases hw
    have hv := F.rel d _ he
    have hlt := F.lt d _ he
    rw [hy]
    rw [Array.getD_eq_getD_getElem?] at hv
    have : d < a.tmps.size := by rw [F.size]; exact hlt
    rw [Array.getElem?_eq_getElem this] at hv ⊢
    simp only [Option.getD_some] at hv
    generalize a.tmps[d] = q at hv
    cases hv
    rfl
   ·rename_i x hx he
    cases hw
    have hv := F.rel d _ he
    have hlt := F.lt d _ he
    rw [hy]
    rw [Array.getD_eq_getD_getElem?] at hv
    have : d < a.tmps.size := by rw [F.size]; exact hlt
    rw [Array.getElem?_eq_getElem this] at hv ⊢
    simp only [Option.getD_some] at hv
    generalize a.tmps[d] = q at hv
    cases hv <;> first | rfl | exact (hx _ rfl).elim
   ·cases hw

theorem jE {C : bK} (SC : hZ P G B w0 C) (R : Rel G B w0 ρ h w) (F : bU ρ n env a) {ops : Array Oper} {i : Nat} {o : Oper} (hi : ops[i]? = some o) {r : jZ}
  (hs : jD P G C n ops o env h = some r) {K : Act → World → Prop} {Q : Exit → Act → World → Prop}
  (hok : ∀ env' h', r = .ok env' h' → ∀ ρ' v' w', Ext ρ h ρ' h' → Rel G B w0 ρ' h' w' → bU ρ' n env' (a.put o.dst v') → K (a.put o.dst v') w')
  (hpanic : ∀ ch h', r = .panic ch h' → ∀ ρ' ch' w', Ext ρ h ρ' h' → Rel G B w0 ρ' h' w' → lS ρ' ch ch' → Q (.panic ch') a w') :
  wpOp P ops Q i K a w := by
 unfold jD at hs
 unfold wpOp
 rw [hi]
 simp only
 split at hs
 ·cases hs
 ·rename_i hw
  rw [nJ F hw]
  simp only [Bool.false_eq_true, if_false]
  cases hp : gE n o.dst undef env with
  | none => simp [hp] at hs
  | some e =>
   simp [hp] at hs; subst hs
   exact hok e h rfl ρ undef w (Ext.refl _ _) R (F.put hp (bA.gX.2 (.nil _)))
 ·rename_i hw
  rw [nJ F hw]
  simp only [if_true]
  left
  unfold Oper.wp
  split at hs
  ·cases hs
  ·rename_i v h' ho
   obtain ⟨v', w', ρ', hrun, hext, hR, hv⟩ := nX R F.rel ho
   rw [hrun]
   simp only [Oper.upon]
   cases hp : gE n o.dst v env with
   | none => simp [hp] at hs
   | some e =>
    simp [hp] at hs; subst hs
    exact hok e h' rfl ρ' v' w' hext hR ((F.mono (hext.le R)).put hp hv)
  ·rename_i h' ho
   obtain ⟨w', ρ', hrun, hext, hR⟩ := nX R F.rel ho
   rw [hrun]
   simp only [Oper.upon]
   cases hp : gE n o.dst undef env with
   | none => simp [hp] at hs
   | some e =>
    simp [hp] at hs; subst hs
    exact hok e h' rfl ρ' undef w' hext hR ((F.mono (hext.le R)).put hp (bA.gX.2 (.nil _)))
  ·rename_i f args ho
   obtain ⟨_, args', hrun, hargs⟩ := nX R F.rel ho
   rw [hrun]
   simp only [Oper.upon]
   split at hs
   ·cases hs
   ·rename_i v h' hc
    refine (SC f args h _ hc ρ w args' R hargs).mono fun e w' he => ?_
    cases e with
    | returned v' =>
     obtain ⟨ρ', hext, hR, hv⟩ := he
     simp only
     cases hp : gE n o.dst v env with
     | none => simp [hp] at hs
     | some e =>
      simp [hp] at hs; subst hs
      exact hok e h' rfl ρ' v' w' hext hR ((F.mono (hext.le R)).put hp hv)
    | panicked ch => exact he.elim
    | outgrown => exact he.elim
   ·rename_i ch h' hc
    cases hs
    refine (SC f args h _ hc ρ w args' R hargs).mono fun e w' he => ?_
    cases e with
    | returned v' => exact he.elim
    | panicked ch' =>
     obtain ⟨ρ', hext, hR, hv⟩ := he
     exact hpanic ch h' rfl ρ' ch' w' hext hR hv
    | outgrown => exact he.elim
  ·rename_i v ho
   cases hs
   obtain ⟨v', hrun, hv⟩ := nX R F.rel ho
   rw [hrun]
   simp only [Oper.upon]
   exact hpanic _ h rfl ρ _ w (Ext.refl _ _) R ⟨hv, rfl, rfl, trivial⟩

theorem put_defers (a : Act) (dst : Option Tmp) (v : Value) : (a.put dst v).defers = a.defers := by cases dst <;> rfl

theorem nA {C : bK} (SC : hZ P G B w0 C) {ops : Array Oper} {Q : Exit → Act → World → Prop} : ∀ (l : List Nat) {ρ : Ren} {h : aA} {w : World} {env : Env} {a : Act} {r : jZ},
  Rel G B w0 ρ h w → bU ρ n env a → dT P G C n ops l env h = some r →
  (∀ env' h', r = .ok env' h' → ∀ ρ' a' w', Ext ρ h ρ' h' → Rel G B w0 ρ' h' w' → bU ρ' n env' a' → a'.defers = a.defers → Q .normal a' w') →
  (∀ ch h', r = .panic ch h' → ∀ ρ' ch' a' w', Ext ρ h ρ' h' → Rel G B w0 ρ' h' w' → lS ρ' ch ch' → a'.defers = a.defers → Q (.panic ch') a' w') →
  wpOps P ops Q l a w
 | [], ρ, h, w, env, a, r, R, F, he, hok, _ => by
  simp only [dT] at he
  cases he
  exact hok env h rfl ρ a w (Ext.refl _ _) R F rfl
 | i :: rest, ρ, h, w, env, a, r, R, F, he, hok, hpanic => by
  rw [wpOps_cons]
  unfold dT at he
  split at he
  ·rename_i hi
   simp only [wpOp, hi]
   exact nA SC rest R F he hok hpanic
  ·rename_i o hi
   split at he
   ·rename_i env' h' hs
    refine jE SC R F hi hs ?_ (fun ch h'' e => by cases e)
    intro env2 h2 e2 ρ' v' w' hext hR hF
    cases e2
    refine nA SC rest hR hF he ?_ ?_
    ·intro env3 h3 e3 ρ3 a3 w3 hext3 hR3 hF3 hd3
     exact hok env3 h3 e3 ρ3 a3 w3 (hext.trans hext3) hR3 hF3 (by rw [hd3, put_defers])
    ·intro ch h3 e3 ρ3 ch3 a3 w3 hext3 hR3 hc3 hd3
     exact hpanic ch h3 e3 ρ3 ch3 a3 w3 (hext.trans hext3) hR3 hc3 (by rw [hd3, put_defers])
   ·rename_i hno
    refine jE SC R F hi he (fun env' h' e => ?_) fun ch h' e ρ' ch' w' hext hR hc => hpanic ch h' e ρ' ch' a w' hext hR hc rfl
    subst e
    exact (hno _ _ he).elim

end
end Go.Am
end

section
namespace Go.Am
open Go.RowKit (Below)

inductive gZ where
 | normal
 | exit (id : Nat)
 | ret
 | panic (ch : List PanicEntry)

abbrev oV := Array Oper → Bool → Env → aA → Option jZ

def exec (G : Nat) (reg : oV) : Nat → Code → Env → aA → Option (gZ × Env × aA)
 | 0, _, _, _ => none
 | k + 1, c, env, h => match c with
  | .skip => some (.normal, env, h)
  | .region _ ops draw => match reg ops draw env h with
   | some (.ok e h') => some (.normal, e, h')
   | some (.panic ch h') => some (.panic ch, env, h')
   | none => none
  | .seq a b => match exec G reg k a env h with
   | some (.normal, e, h') => exec G reg k b e h'
   | r => r
  | .cond c a b => match aJ G env c with
   | some (.bool true) => exec G reg k a env h
   | some (.bool false) => exec G reg k b env h
   | _ => none
  | .block id b => match exec G reg k b env h with
   | some (.exit id', e, h') => if id' = id then some (.normal, e, h') else some (.exit id', e, h')
   | r => r
  | .loop b => match exec G reg k b env h with
   | some (.normal, e, h') => exec G reg k (.loop b) e h'
   | r => r
  | .exit id => some (.exit id, env, h)
  | .ret => some (.ret, env, h)
  | _ => none

def uZ (G B : Nat) (w0 : World) (n : Nat) (ρ : Ren) (h : aA) (ds : List Deferred) (r : gZ × Env × aA) (e : Exit) (a' : Act) (w' : World) : Prop :=
 a'.defers = ds ∧ ∃ ρ', Ext ρ h ρ' r.2.2 ∧ Rel G B w0 ρ' r.2.2 w' ∧ match r.1, e with
  | .normal, .normal => bU ρ' n r.2.1 a'
  | .exit id, .exit id' => id' = id ∧ bU ρ' n r.2.1 a'
  | .ret, .ret => bU ρ' n r.2.1 a'
  | .panic ch, .panic ch' => lS ρ' ch ch'
  | _, _ => False

def vP (P : Program) (G B : Nat) (w0 : World) (n : Nat) (reg : oV) : Prop :=
 ∀ ops draw env h r, reg ops draw env h = some r → ∀ id ρ w a, Rel G B w0 ρ h w → bU ρ n env a →
  (Code.region id ops draw).wp P (fun e a' w' => a'.defers = a.defers ∧ ∃ ρ', match r, e with
   | .ok env' h', .normal => Ext ρ h ρ' h' ∧ Rel G B w0 ρ' h' w' ∧ bU ρ' n env' a'
   | .panic ch h', .panic ch' => Ext ρ h ρ' h' ∧ Rel G B w0 ρ' h' w' ∧ lS ρ' ch ch'
   | _, _ => False) a w

section
variable {G B : Nat} {w0 : World} {P : Program} {n : Nat}

theorem uZ.later {ρ ρ1 : Ren} {h h1 : aA} {ds : List Deferred} {r : gZ × Env × aA} {e : Exit} {a' : Act} {w' : World} (x : Ext ρ h ρ1 h1) (p : uZ G B w0 n ρ1 h1 ds r e a' w') : uZ G B w0 n ρ h ds r e a' w' := by
 obtain ⟨hd, ρ', hx, rest⟩ := p
 exact ⟨hd, ρ', x.trans hx, rest⟩

theorem uT {c : Code} {Q Q' : Exit → Act → World → Prop} (hq : ∀ e a w, Q e a w → Q' e a w) : ∀ (m : Nat) (a : Act) (w : World), Code.rounds P c Q m a w → Code.rounds P c Q' m a w
 | 0, _, _, h => h
 | m + 1, a, w, h => by
  rw [rounds_succ] at h ⊢
  refine wp_mono h fun e a w he => ?_
  cases e <;> first | exact uT hq m _ _ he | exact hq _ _ _ he

theorem aE7 {reg : oV} : ∀ (m : Nat) (c : Code) (env : Env) (h : aA) (r : gZ × Env × aA), exec G reg m c env h = some r → exec G reg (m + 1) c env h = some r := by
 intro m
 induction m with
 | zero => intro c env h r he; simp [exec] at he
 | succ m ih =>
  intro c env h r he
  unfold exec at he ⊢
  cases c with
  | seq x y =>
   simp only at he ⊢
   split at he
   ·rename_i e h' hr
    rw [ih x env h _ hr]
    exact ih y e h' r he
   ·rename_i hno
    rw [ih x env h _ he]
    obtain ⟨ax, e, h'⟩ := r
    cases ax <;> first | rfl | exact (hno _ _ he).elim
  | cond c x y =>
   simp only at he ⊢
   split at he
   ·exact ih x env h r he
   ·exact ih y env h r he
   ·cases he
  | block id b =>
   simp only at he ⊢
   split at he
   ·rename_i id' e h' hr
    rw [ih b env h _ hr]
    exact he
   ·rename_i hno
    rw [ih b env h _ he]
    obtain ⟨ax, e, h'⟩ := r
    cases ax <;> first | rfl | exact (hno _ _ _ he).elim
  | loop b =>
   simp only at he ⊢
   split at he
   ·rename_i e h' hr
    rw [ih b env h _ hr]
    exact ih (.loop b) e h' r he
   ·rename_i hno
    rw [ih b env h _ he]
    obtain ⟨ax, e, h'⟩ := r
    cases ax <;> first | rfl | exact (hno _ _ he).elim
  | _ => exact he

theorem aHb {reg : oV} (d : Nat) {m : Nat} {c : Code} {env : Env} {h : aA} {r : gZ × Env × aA} (he : exec G reg m c env h = some r) : exec G reg (m + d) c env h = some r := by
 induction d with
 | zero => exact he
 | succ d ih => exact aE7 _ _ _ _ _ ih

theorem mL {reg : oV} {m m' : Nat} (hm : m ≤ m') {c : Code} {env : Env} {h : aA} {r : gZ × Env × aA} (he : exec G reg m c env h = some r) : exec G reg m' c env h = some r := by
 have := aHb (m' - m) he
 rwa [show m + (m' - m) = m' by omega] at this

theorem rC {reg : oV} (SR : vP P G B w0 n reg) : ∀ (k : Nat) (c : Code) (env : Env) (h : aA) (r : gZ × Env × aA), exec G reg k c env h = some r →
  ∀ (ρ : Ren) (w : World) (a : Act), Rel G B w0 ρ h w → bU ρ n env a → c.wp P (uZ G B w0 n ρ h a.defers r) a w := by
 intro k
 induction k with
 | zero => intro c env h r he; simp [exec] at he
 | succ k ih =>
  intro c env h r he ρ w a R F
  unfold exec at he
  cases c with
  | skip => cases he; exact wp_skip ⟨rfl, ρ, Ext.refl _ _, R, F⟩
  | region id ops draw =>
   simp only at he
   split at he
   ·rename_i e h' hr
    cases he
    refine wp_mono (SR ops draw env h _ hr id ρ w a R F) fun e a' w' hq => ?_
    obtain ⟨hd, ρ', hq⟩ := hq
    cases e <;> first | (obtain ⟨h1, h2, h3⟩ := hq; exact ⟨hd, ρ', h1, h2, h3⟩) | exact hq.elim
   ·rename_i ch h' hr
    cases he
    refine wp_mono (SR ops draw env h _ hr id ρ w a R F) fun e a' w' hq => ?_
    obtain ⟨hd, ρ', hq⟩ := hq
    cases e <;> first | (obtain ⟨h1, h2, h3⟩ := hq; exact ⟨hd, ρ', h1, h2, h3⟩) | exact hq.elim
   ·cases he
  | seq x y =>
   simp only at he
   refine wp_seq ?_
   split at he
   ·rename_i e h' hr
    refine wp_mono (ih x env h _ hr ρ w a R F) fun ex a' w' hq => ?_
    obtain ⟨hd, ρ', h1, h2, h3⟩ := hq
    cases ex <;> first | exact h3.elim | skip
    show Exit.then _ _ .normal a' w'
    simp only [Exit.then]
    have := ih y e h' r he ρ' w' a' h2 h3
    rw [hd] at this
    exact wp_mono this fun _ _ _ p => p.later h1
   ·rename_i hno
    refine wp_mono (ih x env h _ he ρ w a R F) fun ex a' w' hq => ?_
    cases ex with
    | normal =>
     obtain ⟨hd, ρ', h1, h2, h3⟩ := hq
     obtain ⟨ax, e, h'⟩ := r
     cases ax <;> first | exact h3.elim | exact (hno _ _ he).elim
    | _ => exact hq
  | cond c x y =>
   simp only at he
   split at he
   ·rename_i hc
    have hv := aX R F.rel hc
    have : a.eval c = .bool true := by generalize a.eval c = q at hv; cases hv; rfl
    exact wp_cond_true this (ih x env h r he ρ w a R F)
   ·rename_i hc
    have hv := aX R F.rel hc
    have : a.eval c = .bool false := by generalize a.eval c = q at hv; cases hv; rfl
    exact wp_cond_false this (ih y env h r he ρ w a R F)
   ·cases he
  | block id b =>
   simp only at he
   refine wp_block ?_
   split at he
   ·rename_i id' e h' hr
    refine wp_mono (ih b env h _ hr ρ w a R F) fun ex a' w' hq => ?_
    obtain ⟨hd, ρ', h1, h2, h3⟩ := hq
    cases ex with
    | exit id2 =>
     obtain ⟨rfl, h3⟩ := h3
     simp only [Exit.inBlock]
     split at he
     ·rename_i hid; cases he; rw [if_pos hid]; exact ⟨hd, ρ', h1, h2, h3⟩
     ·rename_i hid; cases he; rw [if_neg hid]; exact ⟨hd, ρ', h1, h2, rfl, h3⟩
    | _ => exact h3.elim
   ·rename_i hno
    refine wp_mono (ih b env h _ he ρ w a R F) fun ex a' w' hq => ?_
    cases ex with
    | exit id2 =>
     obtain ⟨hd, ρ', h1, h2, h3⟩ := hq
     obtain ⟨ax, e, h'⟩ := r
     cases ax <;> first | exact h3.elim | exact (hno _ _ _ he).elim
    | _ => exact hq
  | loop b =>
   -- so many rounds as there are
   have key : ∀ (k' : Nat), k' ≤ k + 1 → ∀ (env : Env) (h : aA) (r : gZ × Env × aA), exec G reg k' (.loop b) env h = some r → ∀ (ρ : Ren) (w : World) (a : Act), Rel G B w0 ρ h w → bU ρ n env a →
     Code.rounds P b (uZ G B w0 n ρ h a.defers r) k' a w := by
    intro k'
    induction k' with
    | zero => intro _ env h r he; simp [exec] at he
    | succ k' ihk =>
     intro hk env h r he ρ w a R F
     rw [rounds_succ]
     unfold exec at he
     simp only at he
     split at he
     ·rename_i e h' hr
      have hr' := mL (by omega : k' ≤ k) hr
      refine wp_mono (ih b env h _ hr' ρ w a R F) fun ex a' w' hq => ?_
      obtain ⟨hd, ρ', h1, h2, h3⟩ := hq
      cases ex <;> first | exact h3.elim | skip
      have := ihk (by omega) e h' r he ρ' w' a' h2 h3
      rw [hd] at this
      exact uT (fun _ _ _ p => p.later h1) k' a' w' this
     ·rename_i hno
      have hr' := mL (by omega : k' ≤ k) he
      refine wp_mono (ih b env h _ hr' ρ w a R F) fun ex a' w' hq => ?_
      cases ex with
      | normal =>
       obtain ⟨hd, ρ', h1, h2, h3⟩ := hq
       obtain ⟨ax, e, h'⟩ := r
       cases ax <;> first | exact h3.elim | exact (hno _ _ he).elim
      | _ => exact hq
   refine wp_loop_rounds (k + 1) (key (k + 1) (Nat.le_refl _) env h r ?_ ρ w a R F)
   unfold exec
   exact he
  | exit id => cases he; exact wp_exit ⟨rfl, ρ, Ext.refl _ _, R, rfl, F⟩
  | ret => cases he; exact wp_ret ⟨rfl, ρ, Ext.refl _ _, R, F⟩
  | rangeFunc f ps x y => cases he
  | scope b => cases he
  | label l => cases he
  | goto l => cases he
  | refuse why => cases he


def bV (P : Program) (env : Env) (h : aA) : List ResultVar → Option (List Value)
 | [] => some []
 | .tmp t :: l => match env t, bV P env h l with
  | some v, some vs => some (v :: vs)
  | _, _ => none
 | .cell a t :: l => match env a, bV P env h l with
  | some (.pointer (some ⟨i, off, none⟩)), some vs => (pS P t i off h).map fun v => v :: vs
  | _, _ => none

def answer : List Value → Value
 | [v] => v
 | vs => .tuple vs.toArray

def xA (tmps : Array Value) : ResultVar → Sem Value
 | .tmp t => pure (tmps.getD t undef)
 | .cell x t => do loadVar t (← asAddr (tmps.getD x undef))

theorem aDl (fn : Func) (tmps : Array Value) : results fn tmps = (do
  let vs ← fn.results.mapM (xA tmps)
  pure (if h : vs.size = 1 then vs[0] else .tuple vs)) := by
 unfold results
 congr 1

theorem nG {ρ : Ren} {h : aA} {w : World} (R : Rel G B w0 ρ h w) {env : Env} {a : Act} (F : mV ρ env a) : ∀ {l : List ResultVar} {vs : List Value}, bV P env h l = some vs →
  ∃ vs', (l.mapM (m := Sem) (xA a.tmps)).run P w = .ok vs' w ∧ bP ρ vs vs'
 | [], vs, hr => by simp [bV] at hr; subst hr; exact ⟨[], rfl, .nil _⟩
 | .tmp t :: l, vs, hr => by
  unfold bV at hr
  split at hr
  ·rename_i v vs1 h1 h2
   cases hr
   obtain ⟨vs', h3, h4⟩ := nG R F h2
   refine ⟨a.tmps.getD t undef :: vs', ?_, .cons (F t v h1) h4⟩
   rw [List.mapM_cons]
   simp only [Sem.run_bind, xA, Sem.run_pure, Result.andThen_ok, h3]
  ·cases hr
 | .cell x t :: l, vs, hr => by
  unfold bV at hr
  split at hr
  ·rename_i i off vs1 h1 h2
   cases hl : pS P t i off h with
   | none => simp [hl] at hr
   | some v =>
    simp [hl] at hr; subst hr
    obtain ⟨vs', h3, h4⟩ := nG R F h2
    have hp := F x _ h1
    generalize hq : a.tmps.getD x undef = q at hp
    cases hp with
    | ptr hi =>
     obtain ⟨v', h5, h6⟩ := uM (P := P) R hi hl
     refine ⟨v' :: vs', ?_, .cons h6 h4⟩
     have h7 : (xA a.tmps (.cell x t)).run P w = .ok v' w := by simp only [xA, Sem.run_bind, hq, asAddr, Sem.run_pure, Result.andThen_ok, h5]
     rw [List.mapM_cons]
     simp only [Sem.run_bind, h7, Result.andThen_ok, h3, Sem.run_pure]
  ·cases hr

theorem kK {ρ : Ren} {h : aA} {w : World} (R : Rel G B w0 ρ h w) {env : Env} {a : Act} (F : mV ρ env a) {fn : Func} {vs : List Value} (hr : bV P env h fn.results.toList = some vs) :
  ∃ v', (results fn a.tmps).run P w = .ok v' w ∧ bA ρ (answer vs) v' := by
 obtain ⟨vs', h1, h2⟩ := nG (P := P) R F hr
 have hm : (results fn a.tmps).run P w = .ok (if hh : vs'.toArray.size = 1 then vs'.toArray[0] else .tuple vs'.toArray) w := by
  rw [aDl, Array.mapM_eq_mapM_toList]
  simp only [Sem.run_bind, Sem.run_map, h1, Result.andThen_ok, Sem.run_pure]
 refine ⟨_, hm, ?_⟩
 cases vs with
 | nil => obtain rfl := h2.dN; exact bA.gX.2 (.nil _)
 | cons v l =>
  obtain ⟨v', l', rfl, h3, h4⟩ := h2.cons_inv
  cases l with
  | nil => obtain rfl := h4.dN; simpa [answer] using h3
  | cons v2 l2 =>
   obtain ⟨v2', l2', rfl, h5, h6⟩ := h4.cons_inv
   simp only [answer, List.size_toArray, List.length_cons]
   rw [dif_neg (by omega)]
   exact bA.gX.2 (.cons h3 (.cons h5 h6))

def jL (args : List Value) : Env := fun t => args[t]?

def jN (P : Program) (G : Nat) (reg : Nat → oV) (k : Nat) (f : FuncId) (args : List Value) (h : aA) : Option bR :=
 match P.funcs[f]? with
 | none => none
 | some fn => match fn.body with
  | none => none
  | some c =>
   if args.length ≤ fn.ntmps then
    match exec G (reg fn.ntmps) k c (jL args) h with
    | some (.normal, env, h') => (bV P env h' fn.results.toList).map fun vs => .ret (answer vs) h'
    | some (.ret, env, h') => (bV P env h' fn.results.toList).map fun vs => .ret (answer vs) h'
    | some (.panic ch, _, h') => some (.panic ch h')
    | _ => none
   else none

theorem vZ {reg : Nat → oV} (SR : ∀ n, vP P G B w0 n (reg n)) (k : Nat) : hZ P G B w0 (jN P G reg k) := by
 intro f args h r hc ρ w args' R hargs
 unfold jN at hc
 split at hc
 ·cases hc
 rename_i fn hf
 split at hc
 ·cases hc
 rename_i c hb
 split at hc
 case isFalse => cases hc
 rename_i hle
 have hsz : args'.size = args.length := by have := hargs.1; simp at this; omega
 refine calls_of_wp hf hb ?_
 have F : bU ρ fn.ntmps (jL args) { tmps := args' ++ Array.replicate (fn.ntmps - args'.size) undef, defers := [] } := by
  refine ⟨by simp; omega, fun t v ht => ?_, fun t v ht => ?_⟩
  ·have : t < args.length := by
    rcases Nat.lt_or_ge t args.length with h | h
    ·exact h
    ·simp only [jL] at ht; rw [List.getElem?_eq_none h] at ht; cases ht
   omega
  ·obtain ⟨v', h1, h2⟩ := hargs.get ht
   have hlt : t < args'.size := by
    rcases Nat.lt_or_ge t args'.size with h | h
    ·exact h
    ·rw [List.getElem?_eq_none (by simpa using h)] at h1; cases h1
   simp only
   rw [Array.getD_eq_getD_getElem?, Array.getElem?_append_left hlt]
   have : args'[t]? = some v' := by simpa using h1
   rw [this]
   exact h2
 split at hc
 ·rename_i env h' he
  cases hr : bV P env h' fn.results.toList with
  | none => simp [hr] at hc
  | some vs =>
   simp [hr] at hc; subst hc
   refine wp_mono (rC (SR fn.ntmps) k c (jL args) h _ he ρ w _ R F) fun e a' w' hq => ?_
   obtain ⟨hd, ρ', h1, h2, h3⟩ := hq
   cases e <;> first | exact h3.elim | skip
   obtain ⟨v', h4, h5⟩ := kK h2 h3.rel hr
   exact ⟨hd, v', h4, ρ', h1, h2, h5⟩
 ·rename_i env h' he
  cases hr : bV P env h' fn.results.toList with
  | none => simp [hr] at hc
  | some vs =>
   simp [hr] at hc; subst hc
   refine wp_mono (rC (SR fn.ntmps) k c (jL args) h _ he ρ w _ R F) fun e a' w' hq => ?_
   obtain ⟨hd, ρ', h1, h2, h3⟩ := hq
   cases e <;> first | exact h3.elim | skip
   obtain ⟨v', h4, h5⟩ := kK h2 h3.rel hr
   exact ⟨hd, v', h4, ρ', h1, h2, h5⟩
 ·rename_i ch env h' he
  cases hc
  refine wp_mono (rC (SR fn.ntmps) k c (jL args) h _ he ρ w _ R F) fun e a' w' hq => ?_
  obtain ⟨hd, ρ', h1, h2, h3⟩ := hq
  cases e <;> first | exact h3.elim | skip
  exact ⟨hd, ρ', h1, h2, h3⟩
 ·cases hc

end
end Go.Am
end
