/-
  The abstract machine, part 8: the other operations, and the theorem on one operation.
-/
import Derived.Test.YtfooolbjhhfbiaaDoorZamSound
import Derived.Laws.BytesArg
import Derived.MapKept
namespace Go.Am
open Go.RowKit (Below)

section
variable {G B : Nat} {w0 : World} {ρ : Ren} {h : Heap} {w : World} {P : Program} {env : Env} {a : Act}

theorem makeSliceA_core {t : TypeId} {l c l' c' v : Value} {h' : Heap} (hs : makeSliceA P t l c h = some (v, h')) (hl : VRel ρ l l') (hc : VRel ρ c c') :
    ∃ n len cap cs cs' e, v = .slice (some ⟨h.next, 0, none⟩) len n ∧ h' = h.alloc (.cells false cs) ∧ len ≤ cap ∧ LRel ρ cs cs'.toList ∧ cs'.size = cap * n ∧
      ∀ w : World, (Instr.makeSlice t l' c').run P w = .ok (.slice (some ⟨w.heap.size, 0, none⟩) len cap) (w.alloc (.cells cs' e)) := by
  unfold makeSliceA at hs
  split at hs
  · rename_i e q l q' c hu
    cases hl; cases hc
    split at hs
    · rename_i n bytes z hfit hz
      split at hs
      · rename_i hcond
        simp only [Bool.and_eq_true, decide_eq_true_eq] at hcond
        obtain ⟨⟨⟨⟨h0, hle⟩, hbig⟩, hby⟩, hzs⟩ := hcond
        simp only [Option.some.injEq, Prod.mk.injEq] at hs
        obtain ⟨rfl, rfl⟩ := hs
        obtain ⟨ei, z', hi, hz', hsz, hbt, _, hn0, hb0⟩ := elemFits_info hfit
        have hzc : VRel ρ z z := (zeroT_run (ρ := ρ) hz default).2
        have hzz := zerosA_rel (ρ := ρ) (z := z) (by omega) hzc c.toNat
        have wl : IntKind.i64.wrap l = l := by simp [IntKind.wrap, IntKind.bits, IntKind.signed]; omega
        have wc : IntKind.i64.wrap c = c := by simp [IntKind.wrap, IntKind.bits, IntKind.signed]; omega
        have hbl : (bytes : Int) * l ≤ bytes * c := Int.mul_le_mul_of_nonneg_left hle (by omega)
        refine ⟨n, l.toNat, c.toNat, _, _, e, rfl, rfl, by omega, hzz, by simp [hzs], fun w => ?_⟩
        have hzr := (zeroT_run (P := P) (ρ := ρ) hz w).1
        subst hzs
        have hc1 : ¬ c < 0 := by omega
        have hc2 : ¬ (281474976710656 < (ei.bytes : Int) * c) := by rw [hbt]; omega
        have hc3 : ¬ l < 0 := by omega
        have hc4 : ¬ c < l := by omega
        by_cases h00 : c.toNat * z.cells.size = 0
        · have hcz : c.toNat = 0 := by
            rcases Nat.mul_eq_zero.1 h00 with h | h
            · exact h
            · omega
          have e1 : Array.range 0 = #[] := rfl
          simp [Instr.makeSlice, run_underlying hu, asInt, asIntOf, typeInfo, hi, wl, wc, hc1, hc2, hc3, hc4, sizeOf, hcz, e1, newRow]
        · simp [Instr.makeSlice, run_underlying hu, asInt, asIntOf, typeInfo, hi, wl, wc, hc1, hc2, hc3, hc4, sizeOf, hsz, h00, hzr, newRow]
      · cases hs
    · cases hs
  · cases hs

theorem makeSliceA_sound (R : Rel G B w0 ρ h w) {t : TypeId} {l c l' c' v : Value} {h' : Heap} (hs : makeSliceA P t l c h = some (v, h')) (hl : VRel ρ l l') (hc : VRel ρ c c') :
    ∃ v' w' ρ', (Instr.makeSlice t l' c').run P w = .ok v' w' ∧ Ext ρ h ρ' h' ∧ Rel G B w0 ρ' h' w' ∧ VRel ρ' v v' := by
  obtain ⟨n, len, cap, cs, cs', e, rfl, rfl, hle, h2, hsz, hrun⟩ := makeSliceA_core hs hl hc
  obtain ⟨_, hR⟩ := newA_sound (P := P) R e h2
  exact ⟨_, _, _, hrun w, Ext.upd _ _ _ _, hR, .slice hle (.inr ⟨0, cs'.size, by simp [Ren.upd], by simp, by omega⟩)⟩

theorem bytesOfCells_eq : ∀ {vs : List Value} {l : List Int}, bytesOfCells vs = some l → vs = l.map (Value.int .u8)
  | [], l, hb => by simp [bytesOfCells] at hb; subst hb; rfl
  | v :: vs, l, hb => by
    unfold bytesOfCells at hb
    split at hb
    · simp_all
    · rename_i n r heq
      simp only [List.cons.injEq] at heq
      obtain ⟨rfl, rfl⟩ := heq
      split at hb
      · rename_i l' hl'
        cases hb
        rw [bytesOfCells_eq hl']; rfl
      · cases hb
    · cases hb

theorem LRel.ints {k : IntKind} : ∀ {l : List Int} {r : List Value}, LRel ρ (l.map (Value.int k)) r → r = l.map (Value.int k)
  | [], r, hr => hr.nil_inv
  | n :: l, r, hr => by
    obtain ⟨v', l', rfl, h1, h2⟩ := hr.cons_inv
    cases h1
    rw [LRel.ints h2]; rfl

theorem convertA_sound (R : Rel G B w0 ρ h w) {s d : TypeId} {x x' v : Value} {h' : Heap} (hc : convertA P s d x h = some (v, h')) (hx : VRel ρ x x') :
    ∃ v' w' ρ', (convert s d x').run P w = .ok v' w' ∧ Ext ρ h ρ' h' ∧ Rel G B w0 ρ' h' w' ∧ VRel ρ' v v' := by
  unfold convertA at hc
  split at hc
  · rename_i du k q n hs hd
    simp only [Option.some.injEq, Prod.mk.injEq] at hc
    obtain ⟨rfl, rfl⟩ := hc
    cases hx
    exact ⟨_, w, ρ, by simp [convert, run_underlying hs, run_underlying hd, Conv.intToInt], Ext.refl _ _, R, .int _ _⟩
  · rename_i du q n hs hd
    simp only [Option.some.injEq, Prod.mk.injEq] at hc
    obtain ⟨rfl, rfl⟩ := hc
    cases hx
    exact ⟨_, w, ρ, by cases du <;> simp [convert, run_underlying hs, run_underlying hd, Conv.intToString], Ext.refl _ _, R, .string _⟩
  · rename_i du s' hs hd
    simp only [Option.some.injEq, Prod.mk.injEq] at hc
    obtain ⟨rfl, rfl⟩ := hc
    cases hx
    exact ⟨_, w, ρ, by cases du <;> simp [convert, run_underlying hs, run_underlying hd], Ext.refl _ _, R, .string _⟩
  · rename_i du e s' hs hd
    split at hc
    · rename_i hue
      simp only [Option.some.injEq, Prod.mk.injEq] at hc
      obtain ⟨rfl, rfl⟩ := hc
      cases hx
      let q : Question := .appendCap s'.size 0 e
      let cap := q.cut (w.tape w.drawn q)
      have hcap : s'.size ≤ cap := by show _ ≤ s'.size + _; omega
      let C : Array Value := (s'.data.map fun b => Value.int .u8 b.toNat) ++ Array.replicate (cap - s'.size) (.int .u8 0)
      have hCs : C.size = cap := by simp [C]; show s'.data.size + _ = _; have : s'.data.size = s'.size := rfl; omega
      let w1 := w.drew.alloc (.cells C e)
      let w' := w1.freeze { block := w.heap.size, off := cap } 1
      have hw1 : w1.heap[w.heap.size]? = some (.cells C e (0, 0)) := heap_alloc_new w.drew _
      have hlt : w.heap.size < w1.heap.size := by simp [w1]
      have hw' : w'.heap[w.heap.size]? = some (.cells C e (cap, cap + 1)) := by
        simp only [w', World.freeze]
        simp [Array.getElem?_modify, hw1]
      have hrun : (convert s d (.string s')).run P w = .ok (.slice (some ⟨w.heap.size, 0, none⟩) s'.size cap) w' := by
        have hsh : w1.shape? w.heap.size = some (e, cap) := by simp [World.shape?, hw1, hCs]
        have hconv : (Conv.stringToBytes e s').run P w = .ok (.slice (some ⟨w.heap.size, 0, none⟩) s'.size cap) w' := by
          have hm : ∀ (x : World), x = w1 → (markStringish ⟨w.heap.size, 0, none⟩).run P x = .ok () w' := by
            rintro x rfl
            simp [markStringish, hsh, w']
          have e1 : (newRow e C).run P w.drew = .ok ⟨w.heap.size, 0, none⟩ w1 := rfl
          have e2 : (choose (.appendCap s'.size 0 e)).run P w = .ok cap w.drew := by rw [run_choose]; rfl
          simp only [Conv.stringToBytes, Sem.run_bind, e2, Result.andThen_ok]
          show ((newRow e C).run P w.drew).andThen _ = _
          rw [e1]
          simp only [Result.andThen_ok, hm w1 rfl, Sem.run_pure]
        cases du <;> simp [convert, run_underlying hs, run_underlying hd, run_underlying hue, hconv]
      have hb : Below w.heap.size w w' := by
        have h1 : Below w.heap.size w w1 := (Below.refl _ _).drew.alloc (Nat.le_refl _) _
        refine h1.trans ⟨rfl, rfl, rfl, by simp [w', World.freeze], fun k hk => ?_⟩
        simp only [w', World.freeze]
        simp [Array.getElem?_modify]
        intro e; omega
      have hbytes : LRel ρ (s'.data.toList.map fun b => Value.int .u8 b.toNat) (s'.data.toList.map fun b => Value.int .u8 b.toNat) := by
        refine ⟨rfl, fun j v v' hv hv' => ?_⟩
        rw [hv] at hv'; cases hv'
        rw [List.getElem?_map] at hv
        cases hbb : s'.data.toList[j]? with
        | none => rw [hbb] at hv; cases hv
        | some b => rw [hbb] at hv; simp at hv; subst hv; exact .int _ _
      have hR := R.new (cs := s'.data.toList.map fun b => Value.int .u8 b.toNat) hb (by simp [w', World.freeze, w1]) hw' (Or.inl (by simp [hCs])) (by simp [hCs]; exact hcap) (fun m v hm => by
        obtain ⟨v', h1, h2⟩ := hbytes.get hm
        refine ⟨v', ?_, h2⟩
        have hlt : m < s'.data.size := by
          rcases Nat.lt_or_ge m s'.data.size with h | h
          · exact h
          · rw [List.getElem?_eq_none (by simpa using h)] at hm; cases hm
        simp only [C]
        rw [Array.getElem?_append_left (by simpa using hlt)]
        simpa using h1)
      refine ⟨_, w', _, hrun, Ext.upd _ _ _ _, hR, .slice hcap (.inr ⟨0, C.size, by simp [Ren.upd], by simp, by omega⟩)⟩
    · cases hc
  · rename_i e a0 len es hs hd
    have hd' : P.underlying d = some .string := hd
    split at hc
    · rename_i hue
      split at hc
      · simp only [Option.some.injEq, Prod.mk.injEq] at hc
        obtain ⟨rfl, rfl⟩ := hc
        cases hx
        refine ⟨_, w, ρ, ?_, Ext.refl _ _, R, .string _⟩
        rw [run_convert_bytes_string w s d e _ _ _ hs hue hd']
        simp [Conv.bytesToString]
      · rename_i i off
        cases hx with
        | @slice _ _ _ _ b off' cap hcapl halt =>
          split at hc
          · rename_i h0
            subst h0
            simp only [Option.some.injEq, Prod.mk.injEq] at hc
            obtain ⟨rfl, rfl⟩ := hc
            refine ⟨_, w, ρ, ?_, Ext.refl _ _, R, .string _⟩
            rw [run_convert_bytes_string w s d e _ _ _ hs hue hd']
            simp [Conv.bytesToString, loadCells, loadCellsFrom]
          · rename_i h0
            split at hc
            · rename_i hes
              subst hes
              split at hc
              · rename_i vs hvs
                cases hbc : bytesOfCells vs with
                | none => simp [hbc] at hc
                | some ns =>
                  simp only [hbc, Option.map_some, Option.some.injEq, Prod.mk.injEq] at hc
                  obtain ⟨rfl, rfl⟩ := hc
                  have hvs' := bytesOfCells_eq hbc
                  subst hvs'
                  rcases halt with h1 | ⟨base, n, hi, rfl, hn⟩
                  · omega
                  obtain ⟨hlen, _, vs', hr, hcell⟩ := R.cells hi hvs
                  obtain rfl := hr.ints
                  have hl := run_loadCells_list (P := P) w ⟨b, base + off, none⟩ (ns.map (Value.int .u8)) (fun j v hv => by rw [addr_add]; exact hcell j v hv)
                  rw [hlen] at hl
                  refine ⟨_, w, ρ, ?_, Ext.refl _ _, R, .string _⟩
                  rw [run_convert_bytes_string w s d e _ _ _ hs hue hd', run_bytesToString w _ _ _ ns hl, foldl_push_bytes]
                  simp
              · cases hc
            · cases hc
      · cases hc
    · cases hc
  · cases hc

theorem assertA_sound {x x' v : Value} {xt t : TypeId} {ok : Bool} (hs : assertA P x t ok = some v) (hx : VRel ρ x x') (w : World) :
    ∃ v', (Instr.typeAssert x' xt t ok).run P w = .ok v' w ∧ VRel ρ v v' := by
  have hpair : ∀ {v v' : Value} (b : Bool), VRel ρ v v' → VRel ρ (.tuple #[v, .bool b]) (.tuple #[v', .bool b]) := fun b hv => VRel.tuple_iff.2 (.cons hv (.cons (.bool _) (.nil _)))
  unfold assertA at hs
  split at hs
  · rename_i want t' v0 hu
    cases hx with
    | @iface _ _ v0' hv =>
      split at hs
      · rename_i i hi
        split at hs
        · rename_i hm
          cases hs
          cases ok
          · exact ⟨_, by simp [Instr.typeAssert, run_underlying hu, typeInfo, hi, hm], .iface hv⟩
          · exact ⟨_, by simp [Instr.typeAssert, run_underlying hu, typeInfo, hi, hm], hpair _ (.iface hv)⟩
        · rename_i m hm
          split at hs
          · rename_i hok
            cases hz : zeroT P t with
            | none => simp [hz] at hs
            | some z =>
              simp [hz] at hs; subst hs
              obtain ⟨h1, h2⟩ := zeroT_run (ρ := ρ) hz w
              exact ⟨_, by simp [Instr.typeAssert, run_underlying hu, typeInfo, hi, hm, hok, h1], hpair _ h2⟩
          · cases hs
      · cases hs
  · rename_i d hu
    cases hx
    split at hs
    · rename_i hok
      cases hz : zeroT P t with
      | none => simp [hz] at hs
      | some z =>
        simp [hz] at hs; subst hs
        obtain ⟨h1, h2⟩ := zeroT_run (ρ := ρ) hz w
        refine ⟨_, ?_, hpair _ h2⟩
        cases d <;> simp [Instr.typeAssert, run_underlying hu, hok, h1]
    · cases hs
  · rename_i d t' v0 hd hu
    cases hx with
    | @iface _ _ v0' hv =>
      split at hs
      · rename_i ht
        subst ht
        cases hs
        cases ok
        · refine ⟨v0', ?_, hv⟩
          cases d <;> first | exact (hd _ rfl).elim | simp [Instr.typeAssert, run_underlying hu]
        · refine ⟨_, ?_, hpair _ hv⟩
          cases d <;> first | exact (hd _ rfl).elim | simp [Instr.typeAssert, run_underlying hu]
      · rename_i ht
        split at hs
        · rename_i hok
          cases hz : zeroT P t with
          | none => simp [hz] at hs
          | some z =>
            simp [hz] at hs; subst hs
            obtain ⟨h1, h2⟩ := zeroT_run (ρ := ρ) hz w
            refine ⟨_, ?_, hpair _ h2⟩
            cases d <;> first | exact (hd _ rfl).elim | simp [Instr.typeAssert, run_underlying hu, hok, h1, ht]
        · cases hs
  · cases hs


theorem methodA_sound {t : TypeId} {v v' r : Value} {name : String} {f : FuncId} (hm : methodA P t v name = some (f, r)) (hv : VRel ρ v v') (fuel : Nat) (w : World) :
    ∃ r', (method (fuel + 1) t v' name).run P w = .ok (f, r') w ∧ VRel ρ r r' := by
  unfold methodA at hm
  split at hm
  · rename_i i hi
    split at hm
    · rename_i m hf
      split at hm
      · rename_i hp
        have hpl : m.path.toList = [] := by
          have : m.path = #[] := by simpa using hp
          rw [this]
        split at hm
        · rename_i g ptr hg
          split at hm
          · rename_i e hu
            split at hm
            · rename_i hptr
              cases hm
              exact ⟨v', by simp [method, typeInfo, hi, hf, hpl, follow, hg, receiverAt, run_underlying hu, hptr, Place.get], hv⟩
            · cases hm
          · rename_i d hd hu
            split at hm
            · cases hm
            · rename_i hptr
              cases hm
              refine ⟨v', ?_, hv⟩
              cases d <;> first | exact (hd _ rfl).elim | simp [method, typeInfo, hi, hf, hpl, follow, hg, receiverAt, run_underlying hu, hptr, Place.get]
          · cases hm
        · cases hm
      · cases hm
    · cases hm
  · cases hm

theorem enterA_sound {f : FuncId} {args : List Value} {args' : Array Value} {r : ANext} (he : enterA P f args = some r) (_ha : LRel ρ args args'.toList) (w : World) :
    r = .enter f args ∧ (P.funcs[f]?).any (·.body.isSome) = true ∧ (callFunc f args').run P w = .ok (.enter f args') w := by
  unfold enterA at he
  split at he
  · rename_i fn hf
    split at he
    · rename_i hc
      simp at hc
      cases he
      refine ⟨rfl, by simp [hf, hc.1], ?_⟩
      have hb : ¬ fn.body = none := fun e => by rw [e] at hc; cases hc.1
      simp [callFunc, hf, hc.2, hb]
    · cases he
  · cases he

theorem invokeA_sound {fn : Fn} {args captured : List Value} {args' captured' : Array Value} {r : ANext} (he : invokeA P fn args captured = some r) (ha : LRel ρ args args'.toList) (hcp : LRel ρ captured captured'.toList) (w : World) :
    ∃ f as as', r = .enter f as ∧ (P.funcs[f]?).any (·.body.isSome) = true ∧ (invoke (.fn fn captured') args').run P w = .ok (.enter f as') w ∧ LRel ρ as as'.toList := by
  unfold invokeA at he
  split at he
  · rename_i f
    have hl : LRel ρ (args ++ captured) (args' ++ captured').toList := by simpa using ha.append hcp
    obtain ⟨h1, h2, h3⟩ := enterA_sound he hl w
    exact ⟨f, _, _, h1, h2, by simpa [invoke] using h3, hl⟩
  · rename_i name
    split at he
    · rename_i t v rest
      obtain ⟨x', l', e, hx, hrest⟩ := ha.cons_inv
      split at he
      · rename_i f r0 hm
        cases hx with
        | @iface _ _ v' hv =>
          have hfuel : ∃ k, P.types.size + Made.depth = k + 1 := ⟨P.types.size + 99, by simp [Made.depth]⟩
          obtain ⟨k, hk⟩ := hfuel
          obtain ⟨r', h1, h2⟩ := methodA_sound hm hv k w
          have hl : LRel ρ (r0 :: rest) (#[r'] ++ args'.extract 1 args'.size).toList := by
            have e2 : (args'.extract 1 args'.size).toList = l' := by
              rw [Array.toList_extract, e]
              simp only [List.extract_eq_take_drop, List.drop_succ_cons, List.drop_zero]
              have : args'.size = l'.length + 1 := by rw [← Array.length_toList, e]; rfl
              rw [this]; simp
            simp only [Array.toList_append, e2]
            exact .cons h2 hrest
          obtain ⟨h3, h4, h5⟩ := enterA_sound he hl w
          have e0 : args'[0]? = some (.iface t v') := by rw [← Array.getElem?_toList, e]; rfl
          refine ⟨f, _, _, h3, h4, ?_, hl⟩
          simp only [invoke, e0, callMethod, Sem.run_bind, run_program, Result.andThen_ok, hk, h1]
          exact h5
      · cases he
    · cases he
  · cases he

theorem lenA_sound (R : Rel G B w0 ρ h w) {t : TypeId} {x x' v : Value} {argTypes : Array TypeId} {ty : TypeId} (ht : argTypes[0]? = some t) (hl : lenA P t x h = some v) (hx : VRel ρ x x') :
    (Builtin.len_ argTypes ty #[x']).run P w = .ok v w ∧ VRel ρ v v := by
  unfold lenA at hl
  split at hl
  · rename_i s hu
    cases hl; cases hx
    exact ⟨by simp [Builtin.len_, ht, run_underlying hu, goInt], .int _ _⟩
  · rename_i n e hu
    cases hl
    refine ⟨?_, .int _ _⟩
    cases x' <;> simp [Builtin.len_, ht, run_underlying hu, goInt]
  · rename_i e a0 n es hu
    cases hl
    refine ⟨?_, .int _ _⟩
    cases hx <;> simp [Builtin.len_, ht, run_underlying hu, goInt]
  · rename_i k e hu
    cases hl; cases hx
    exact ⟨by simp [Builtin.len_, ht, run_underlying hu, goInt], .int _ _⟩
  · rename_i k e r hu
    split at hl
    · rename_i es ho
      cases hl
      cases hx with
      | map hi =>
        obtain ⟨_, es', c, hb, he⟩ := R.live _ _ _ _ _ hi ho
        refine ⟨?_, .int _ _⟩
        have : es'.size = es.length := by have := he.1.1; simp at this; omega
        simp [Builtin.len_, ht, run_underlying hu, MapKept.run_getObj_map hb, goInt, this]
    · cases hl
  · cases hl

theorem maxA_sound {b : Bool} {args : List Value} {args' : Array Value} {v : Value} (hm : maxA b args = some v) (ha : LRel ρ args args'.toList) (argTypes : Array TypeId) (ty : TypeId) (w : World) :
    (if b then Builtin.max_ argTypes ty args' else Builtin.min_ argTypes ty args').run P w = .ok v w ∧ VRel ρ v v := by
  unfold maxA at hm
  split at hm
  · rename_i k x k' y
    obtain ⟨x', l, e, hx, hl⟩ := ha.cons_inv
    obtain ⟨y', l', rfl, hy, hl'⟩ := hl.cons_inv
    obtain rfl := hl'.nil_inv
    cases hx; cases hy
    cases b <;> simp at hm <;> subst hm
    · exact ⟨by simp [Builtin.min_, e, Builtin.min2], .int _ _⟩
    · exact ⟨by simp [Builtin.max_, e, Builtin.max2], .int _ _⟩
  · cases hm

end
end Go.Am
