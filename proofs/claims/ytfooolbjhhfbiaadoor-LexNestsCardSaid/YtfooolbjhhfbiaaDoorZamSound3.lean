/-
  The abstract machine, part 9: copy, maps, calls, and the theorem on one operation.
-/
import Derived.Test.YtfooolbjhhfbiaaDoorZamSound2
namespace Go.Am
open Go.RowKit (Below)

/-- What was found in a logical map, and in the model's. -/
def FRel (ρ : Ren) (k : Value) (es' : List MapEntry) (i : Nat) : Option (Nat × Value) → Option (Nat × Value) → Prop
  | none, none => True
  | some (j, v), some (j', v') => j = j' ∧ i ≤ j ∧ VRel ρ v v' ∧ ∃ e, es'[j - i]? = some e ∧ e.key = k
  | _, _ => False

section
variable {G B : Nat} {w0 : World} {ρ : Ren} {h : Heap} {w : World} {P : Program} {env : Env} {a : Act}

theorem findA_step {d : TypeDesc} {k v0 : Value} {e : MapEntry} {es' : List MapEntry} {i : Nat} {r : Option (Nat × Value)} (hvv : VRel ρ v0 e.val) {rest : Option (Option (Nat × Value))}
    (ih : rest = some r → ∃ r', Instr.findNow d k es' (i + 1) = some r' ∧ FRel ρ k es' (i + 1) r r') (same : Bool) (hs : Instr.sameNow d k e.key = some same) (heq : same = true → e.key = k)
    (hr : (if same then some (some (i, v0)) else rest) = some r) : ∃ r', Instr.findNow d k (e :: es') i = some r' ∧ FRel ρ k (e :: es') i r r' := by
  cases same with
  | true =>
    simp at hr; subst hr
    exact ⟨some (i, e.val), by simp [Instr.findNow, hs], rfl, Nat.le_refl _, hvv, e, by simp, heq rfl⟩
  | false =>
    simp at hr
    obtain ⟨r', h1, h2⟩ := ih hr
    refine ⟨r', by simp [Instr.findNow, hs, h1], ?_⟩
    cases r with
    | none => cases r' with
      | none => trivial
      | some y => exact h2
    | some x => cases r' with
      | none => exact h2
      | some y =>
        obtain ⟨e1, e2, e3, z, e4, e5⟩ := h2
        refine ⟨e1, by omega, e3, z, ?_, e5⟩
        rw [show x.1 - i = (x.1 - (i + 1)) + 1 by omega]
        simpa using e4

theorem findA_sound {d : TypeDesc} {k : Value} (hk : MapKept.IsKey d k) : ∀ {es : List (Value × Value)} {es' : List MapEntry} {i : Nat} {r : Option (Nat × Value)}, findA k es i = some r → ERel ρ es es' →
    ∃ r', Instr.findNow d k es' i = some r' ∧ FRel ρ k es' i r r'
  | [], es', i, r, hf, he => by
    simp [findA] at hf; subst hf
    have := he.1.1
    simp at this
    obtain rfl := List.eq_nil_of_length_eq_zero this.symm
    exact ⟨none, rfl, trivial⟩
  | (k0, v0) :: es, [], i, r, hf, he => by have := he.1.1; simp at this
  | (k0, v0) :: es, e :: es', i, r, hf, he => by
    have hkk : VRel ρ k0 e.key := he.1.2 0 k0 e.key (by simp) (by simp)
    have hvv : VRel ρ v0 e.val := he.2.2 0 v0 e.val (by simp) (by simp)
    have he' : ERel ρ es es' := ⟨by simpa using he.1.drop 1, by simpa using he.2.drop 1⟩
    have ih : findA k es (i + 1) = some r → _ := fun hr => findA_sound (r := r) hk hr he'
    obtain ⟨key, val, born⟩ := e
    unfold findA at hf
    split at hf
    · cases hkk
      split at hf
      · rename_i hq
        subst hq
        cases d <;> simp [MapKept.IsKey] at hk
        refine findA_step hvv ih _ (by first | (simp [Instr.sameNow]; done) | (simp [Instr.sameNow]; rfl)) (by first | (simp; done) | (simp; intro h; exact h.symm)) (by simpa using hf)
      · cases hf
    · cases hkk
      cases d <;> simp [MapKept.IsKey] at hk
      refine findA_step hvv ih _ (by first | (simp [Instr.sameNow]; done) | (simp [Instr.sameNow]; rfl)) (fun h => ?_) hf
      rw [(MapKept.bytes_beq _ _).1 h]
    · cases hkk
      cases d <;> simp [MapKept.IsKey] at hk
      refine findA_step hvv ih _ (by first | (simp [Instr.sameNow]; done) | (simp [Instr.sameNow]; rfl)) (by first | (simp; done) | (simp; intro h; exact h.symm)) (by simpa using hf)
    · cases hf

theorem keyT_isKey {t : TypeId} {k : Value} (hk : keyT P t k = true) : ∃ d, P.underlying t = some d ∧ MapKept.IsKey d k := by
  unfold keyT at hk
  split at hk
  · rename_i q q' n hu; exact ⟨_, hu, by simpa [MapKept.IsKey] using hk⟩
  · rename_i s hu; exact ⟨_, hu, trivial⟩
  · rename_i b hu; exact ⟨_, hu, trivial⟩
  · cases hk

theorem keyT_rel {t : TypeId} {k k' : Value} (hk : keyT P t k = true) (hv : VRel ρ k k') : k' = k := by
  unfold keyT at hk
  split at hk
  · cases hv; rfl
  · cases hv; rfl
  · cases hv; rfl
  · cases hk

theorem mapOf_sound (R : Rel G B w0 ρ h w) {m m' : Value} {es : List (Value × Value)} (hm : mapOf h m = some es) (hv : VRel ρ m m') :
    (m' = .map none ∧ es = []) ∨ ∃ r es' c, m' = .map (some r) ∧ w.heap[r]? = some (.map es' c) ∧ ERel ρ es es'.toList := by
  unfold mapOf at hm
  split at hm
  · cases hm; cases hv; exact .inl ⟨rfl, rfl⟩
  · split at hm
    · rename_i r es0 ho
      cases hm
      cases hv with
      | map hi =>
        obtain ⟨_, es', c, hb, he⟩ := R.live _ _ _ _ _ hi ho
        exact .inr ⟨_, es', c, rfl, hb, he⟩
    · cases hm
  · cases hm

theorem lookupA_sound (R : Rel G B w0 ρ h w) {t : TypeId} {m m' k k' v : Value} {ok : Bool} (hl : lookupA P t m k ok h = some v) (hm : VRel ρ m m') (hk : VRel ρ k k') :
    ∃ v', (Instr.lookup t m' k' ok).run P w = .ok v' w ∧ VRel ρ v v' := by
  have hpair : ∀ {v v' : Value} (b : Bool), VRel ρ v v' → VRel ρ (.tuple #[v, .bool b]) (.tuple #[v', .bool b]) := fun b hv => VRel.tuple_iff.2 (.cons hv (.cons (.bool _) (.nil _)))
  have hfin : ∀ {v v' : Value} (b : Bool), VRel ρ v v' → VRel ρ (if ok then .tuple #[v, .bool b] else v) (if ok then .tuple #[v', .bool b] else v') := by
    intro v v' b hv; cases ok
    · exact hv
    · exact hpair b hv
  unfold lookupA at hl
  split at hl
  · rename_i kt e hu
    split at hl
    · rename_i hkt
      obtain ⟨d, hd, hkey⟩ := keyT_isKey hkt
      obtain rfl := keyT_rel hkt hk
      split at hl
      · rename_i es hes
        have hfk : ∀ {es' : List MapEntry}, ERel ρ es es' → ∀ {r}, findA k' es 0 = some r → ∃ r', (Instr.findKey kt k' es').run P w = .ok r' w ∧ FRel ρ k' es' 0 r r' := by
          intro es' he r hr
          obtain ⟨r', h1, h2⟩ := findA_sound hkey hr he
          exact ⟨r', MapKept.run_findKey hd h1, h2⟩
        have hck : ∀ b : Bool, (Instr.checkKey b 10000 kt k').run P w = .ok () w := fun b => MapKept.run_checkKey hd hkey b 9999
        have main : ∀ (es' : Array MapEntry), ERel ρ es es'.toList → (∀ v', (do
              Instr.checkKey es'.isEmpty 10000 kt k'
              let (v, b) ← match ← Instr.findKey kt k' es'.toList with
                | some (_, v) => pure (v, true)
                | none => pure (← zeroValue e, false)
              pure (if ok then Value.tuple #[v, .bool b] else v) : Sem Value).run P w = .ok v' w → (Instr.lookup t m' k' ok).run P w = .ok v' w) →
            ∃ v', (Instr.lookup t m' k' ok).run P w = .ok v' w ∧ VRel ρ v v' := by
          intro es' he hrun
          split at hl
          · rename_i j v0 hf
            cases hl
            obtain ⟨r', h1, h2⟩ := hfk he hf
            cases r' with
            | none => exact h2.elim
            | some x =>
              obtain ⟨_, _, hv, _⟩ := h2
              refine ⟨_, hrun _ ?_, hfin true hv⟩
              simp [hck, h1]
          · rename_i hf
            cases hz : zeroT P e with
            | none => simp [hz] at hl
            | some z =>
              simp [hz] at hl; subst hl
              obtain ⟨hz1, hz2⟩ := zeroT_run (ρ := ρ) hz w
              obtain ⟨r', h1, h2⟩ := hfk he hf
              cases r' with
              | none =>
                refine ⟨_, hrun _ ?_, hfin false hz2⟩
                simp [hck, h1, hz1]
              | some x => exact h2.elim
          · cases hl
        rcases mapOf_sound R hes hm with ⟨rfl, rfl⟩ | ⟨r, es', c, rfl, hb, he⟩
        · refine main #[] ⟨.nil _, .nil _⟩ fun v' hv' => ?_
          simp only [Instr.lookup, Sem.run_bind, run_underlying hu, Result.andThen_ok, Sem.run_pure] at hv' ⊢
          exact hv'
        · refine main es' he fun v' hv' => ?_
          simp only [Instr.lookup, Sem.run_bind, run_underlying hu, Result.andThen_ok, MapKept.run_getObj_map hb, Sem.run_pure] at hv' ⊢
          exact hv'
      · cases hl
    · cases hl
  · cases hl

theorem updateA_sound (R : Rel G B w0 ρ h w) {t : TypeId} {m m' k k' x x' : Value} {h' : Heap} (hl : updateA P t m k x h = some h') (hm : VRel ρ m m') (hk : VRel ρ k k') (hx : VRel ρ x x') :
    ∃ w', (Instr.mapUpdate t m' k' x').run P w = .ok () w' ∧ Rel G B w0 ρ h' w' := by
  unfold updateA at hl
  split at hl
  · rename_i kt e r hu
    split at hl
    · rename_i hkt
      obtain ⟨d, hd, hkey⟩ := keyT_isKey hkt
      obtain rfl := keyT_rel hkt hk
      split at hl
      · rename_i es ho
        cases hm with
        | @map _ b base n hi =>
          obtain ⟨hB, es', c, hb, he⟩ := R.live _ _ _ _ _ hi ho
          have hck : ∀ b : Bool, (Instr.checkKey b 10000 kt k').run P w = .ok () w := fun b => MapKept.run_checkKey hd hkey b 9999
          have upd : ∀ (es2 : Array MapEntry) (c2 : Nat) (es3 : List (Value × Value)), ERel ρ es3 es2.toList →
              Rel G B w0 ρ (h.put r (some (.map es3))) { w with heap := w.heap.setIfInBounds b (.map es2 c2) } := by
            intro es2 c2 es3 he3
            have hlt : b < w.heap.size := (R.dom _ _ _ _ hi).2
            refine R.update (w' := { w with heap := w.heap.setIfInBounds b (.map es2 c2) }) hi ho rfl rfl rfl rfl (by simp) (fun k hk => by simp [Ne.symm hk]) fun o eo => ?_
            cases eo
            exact ⟨⟨hB, es2, c2, by simp [hlt], he3⟩, rfl⟩
          split at hl
          · rename_i i v0 hf
            cases hl
            obtain ⟨r', h1, h2⟩ := findA_sound hkey hf he
            cases r' with
            | none => exact h2.elim
            | some y =>
              obtain ⟨e1, _, _, z, hz, hzk⟩ := h2
              simp only [Nat.sub_zero] at hz
              obtain ⟨j, yv⟩ := y
              simp only at e1
              subst e1
              have hfk := MapKept.run_findKey (w := w) (P := P) hd h1
              have hzi : es'[i]? = some z := by rw [← Array.getElem?_toList]; exact hz
              refine ⟨_, ?_, upd (es'.modify i fun q => { q with key := k', val := x' }) c (es.set i (k', x)) ?_⟩
              · simp [Instr.mapUpdate, run_underlying hu, MapKept.run_getObj_map hb, hck, hfk, hzi, hzk, MapKept.run_keyThatStays hkey, MapKept.run_setObj_map _ hb]
              · have hmod : (es'.modify i fun q => { q with key := k', val := x' }).toList = es'.toList.set i { z with key := k', val := x' } := by
                  rw [Array.toList_modify]
                  apply List.ext_getElem?
                  intro q
                  rw [List.getElem?_modify, List.getElem?_set]
                  by_cases hq : i = q
                  · subst hq
                    have : i < es'.toList.length := (List.getElem?_eq_some_iff.1 hz).1
                    simp only [if_true]
                    rw [hz, if_pos this]; rfl
                  · simp [hq]
                rw [hmod]
                refine ⟨?_, ?_⟩
                · rw [List.map_set, List.map_set]
                  exact he.1.set i hk
                · rw [List.map_set, List.map_set]
                  exact he.2.set i hx
          · rename_i hf
            cases hl
            obtain ⟨r', h1, h2⟩ := findA_sound hkey hf he
            cases r' with
            | some y => exact h2.elim
            | none =>
              have hfk := MapKept.run_findKey (w := w) (P := P) hd h1
              refine ⟨_, ?_, upd (es'.push { key := k', val := x', born := c }) (c + 1) (es ++ [(k', x)]) ?_⟩
              · simp [Instr.mapUpdate, run_underlying hu, MapKept.run_getObj_map hb, hck, hfk, MapKept.run_setObj_map _ hb]
              · rw [Array.toList_push]
                refine ⟨?_, ?_⟩
                · simpa using he.1.append (.cons hk (.nil _))
                · simpa using he.2.append (.cons hx (.nil _))
          · cases hl
      · cases hl
    · cases hl
  · cases hl


theorem nilCheckA_sound {v v' x : Value} (hn : nilCheckA P v = some x) (hv : VRel ρ v v') (ev : Operand → Value) (o : Oper) (y : Operand) (ho : o.op = .nilCheck y) (hy : ev y = v') (w : World) :
    (execOp ev o).run P w = .ok (.value v') w ∧ VRel ρ x v' := by
  unfold nilCheckA at hn
  split at hn
  · cases hn
    refine ⟨?_, hv⟩
    cases hv
    simp [execOp, ho, hy]
  · cases hn
    refine ⟨?_, hv⟩
    cases hv
    simp [execOp, ho, hy]
  · cases hn
    refine ⟨?_, hv⟩
    cases hv
    simp [execOp, ho, hy]
  · rename_i name f c
    split at hn
    · rename_i t u rest hfl
      split at hn
      · rename_i r hm
        obtain ⟨fid, rv⟩ := r
        split at hn
        · cases hn
        · rename_i hnp
          cases hn
          refine ⟨?_, hv⟩
          cases hv with
          | @func _ _ f' _ c' h1 h2 h3 h4 =>
            have hff := (VRel.func_iff.1 (VRel.func (fn := .method name) h1 h2 h3 h4)).1
            rw [hfl] at hff
            obtain ⟨x', l', e, hx, _⟩ := hff.cons_inv
            cases hx with
            | @iface _ _ u' hu =>
              have e0 : f'[0]? = some (.iface t u') := by rw [← Array.getElem?_toList, e]; rfl
              have hfuel : ∃ k, P.types.size + Made.depth = k + 1 := ⟨P.types.size + 99, by simp [Made.depth]⟩
              obtain ⟨k, hk⟩ := hfuel
              have hah : (nilAhead (k + 1) t u' name).run P w = .ok (some false) w := by
                unfold methodA at hm
                split at hm
                · rename_i i hi
                  split at hm
                  · rename_i m hf
                    split at hm
                    · rename_i hp
                      have hpl : m.path.toList = [] := by
                        have : m.path = #[] := by simpa using hp
                        rw [this]
                      split at hm
                      · rename_i g ptr hg
                        cases ptr with
                        | true => simp [nilAhead, typeInfo, hi, hf, hpl, followBlind, hg]
                        | false =>
                          split at hm
                          · cases hm
                          · rename_i d hd hud
                            have : ∀ (e : TypeId), d ≠ .pointer e := fun e he => hd e he
                            cases d <;> first | exact (this _ rfl).elim | simp [nilAhead, typeInfo, hi, hf, hpl, followBlind, hg, run_underlying hud]
                          · cases hm
                      · cases hm
                    · cases hm
                  · cases hm
                · cases hm
              simp [execOp, ho, hy, e0, hk, hah]
      · cases hn
    · cases hn
  · cases hn

theorem copyA_sound (R : Rel G B w0 ρ h w) {argTypes : Array TypeId} {args : List Value} {args' : Array Value} {v : Value} {h' : Heap} (hc : copyA P argTypes args h = some (v, h')) (ha : LRel ρ args args'.toList) (ty : TypeId) :
    ∃ w', (Builtin.copy_ argTypes ty args').run P w = .ok v w' ∧ Rel G B w0 ρ h' w' ∧ VRel ρ v v := by
  unfold copyA at hc
  split at hc
  case h_2 => cases hc
  rename_i dType b dLen es src ht
  obtain ⟨d', l, e, hd, hl⟩ := ha.cons_inv
  obtain ⟨s', l', rfl, hs, hl'⟩ := hl.cons_inv
  obtain rfl := hl'.nil_inv
  have e0 : args'[0]? = some d' := by rw [← Array.getElem?_toList, e]; rfl
  have e1 : args'[1]? = some s' := by rw [← Array.getElem?_toList, e]; rfl
  split at hc
  case h_2 => cases hc
  rename_i el hu
  split at hc
  case h_2 => cases hc
  rename_i n hn
  split at hc
  · cases hc
  rename_i hn0
  -- the destination's shape
  have hdst : ∃ b' cap, d' = .slice b' dLen cap ∧ (∀ i off, b = some ⟨i, off, none⟩ → 0 < dLen → ∃ bb base N, b' = some ⟨bb, base + off, none⟩ ∧ ρ i = some (bb, base, N)) := by
    cases hd with
    | nilSlice => exact ⟨none, 0, rfl, fun i off hi => by cases hi⟩
    | @slice i off _ _ bb off' cap hcl halt =>
      refine ⟨_, cap, rfl, fun i2 off2 hi h0 => ?_⟩
      cases hi
      rcases halt with h1 | ⟨base, N, h1, rfl, h2⟩
      · omega
      · exact ⟨bb, base, N, rfl, h1⟩
  obtain ⟨b', cap, rfl, hdst⟩ := hdst
  split at hc
  · rename_i sb sLen es'
    have hsl : ∃ sb' scap, s' = .slice sb' sLen scap ∧ (∀ j off, sb = some ⟨j, off, none⟩ → 0 < sLen → ∃ bb base N, sb' = some ⟨bb, base + off, none⟩ ∧ ρ j = some (bb, base, N)) ∧ (sb' = none → sLen = 0) := by
      cases hs with
      | nilSlice => exact ⟨none, 0, rfl, (fun i off hi => by cases hi), fun _ => rfl⟩
      | @slice i off _ _ bb off' scap hcl halt =>
        refine ⟨_, scap, rfl, (fun i2 off2 hi h0 => ?_), fun hh => by cases hh⟩
        cases hi
        rcases halt with h1 | ⟨base, N, h1, rfl, h2⟩
        · omega
        · exact ⟨bb, base, N, rfl, h1⟩
    obtain ⟨sb', scap, rfl, hsl, hsn⟩ := hsl
    simp only at hc
    split at hc
    · rename_i hk
      cases hc
      refine ⟨w, ?_, R, .int _ _⟩
      cases sb' <;> cases b' <;> simp [Builtin.copy_, ht, e0, e1, run_underlying hu, Builtin.lenOf, sizeT_run hn, hk, Builtin.firstCells, loadCells, loadCellsFrom, goInt, storeCells]
    · rename_i hk
      split at hc
      case h_2 => cases hc
      rename_i i off j off'
      split at hc
      case isFalse => cases hc
      rename_i hes
      simp only [Bool.and_eq_true, decide_eq_true_eq] at hes
      split at hc
      case h_2 => cases hc
      rename_i vs hvs
      cases hst : h.store i off vs with
      | none => simp [hst] at hc
      | some h2 =>
        simp only [hst, Option.map_some, Option.some.injEq, Prod.mk.injEq] at hc
        obtain ⟨rfl, rfl⟩ := hc
        have hd0 : 0 < dLen := by
          rcases Nat.eq_zero_or_pos dLen with h | h
          · rw [h] at hk; simp at hk
          · exact h
        have hs0 : 0 < sLen := by
          rcases Nat.eq_zero_or_pos sLen with h | h
          · rw [h] at hk; simp at hk
          · exact h
        obtain ⟨bb, base, N, rfl, hi⟩ := hdst i off rfl hd0
        obtain ⟨bb2, base2, N2, rfl, hj⟩ := hsl j off' rfl hs0
        obtain ⟨hlen, _, vs', hv, hcell⟩ := R.cells hj hvs
        obtain ⟨hrun, hR⟩ := R.store (P := P) hi hst hv
        have hl := run_loadCells_list (P := P) w ⟨bb2, base2 + off', none⟩ vs' (fun j v hv => by rw [addr_add]; exact hcell j v hv)
        rw [← hv.1, hlen] at hl
        refine ⟨_, ?_, hR, .int _ _⟩
        simp [Builtin.copy_, ht, e0, e1, run_underlying hu, Builtin.lenOf, sizeT_run hn, Builtin.firstCells, hl, hrun, goInt]
  · cases hc

theorem updateA_next {t : TypeId} {m k x : Value} {h' : Heap} (hl : updateA P t m k x h = some h') : h'.next = h.next := by
  unfold updateA at hl
  split at hl
  · split at hl
    · split at hl
      · split at hl <;> first | (cases hl; done) | (cases hl; rfl)
      · cases hl
    · cases hl
  · cases hl

theorem copyA_next {argTypes : Array TypeId} {args : List Value} {v : Value} {h' : Heap} (hc : copyA P argTypes args h = some (v, h')) : h'.next = h.next := by
  unfold copyA at hc
  split at hc
  case h_2 => cases hc
  split at hc
  case h_2 => cases hc
  split at hc
  case h_2 => cases hc
  split at hc
  · cases hc
  split at hc
  · simp only at hc
    split at hc
    · cases hc; rfl
    · split at hc
      case h_2 => cases hc
      split at hc
      case isFalse => cases hc
      split at hc
      case h_2 => cases hc
      rename_i vs _
      rename_i i off _ _ _ _ _
      cases hst : h.store i off vs with
      | none => simp [hst] at hc
      | some h2 =>
        simp only [hst, Option.map_some, Option.some.injEq, Prod.mk.injEq] at hc
        obtain ⟨_, rfl⟩ := hc
        exact Heap.store_next hst
  · cases hc

end
end Go.Am
