/-
  The abstract machine, part 4: append. The result is always a new logical object; the old one is forgotten.
-/
import Derived.Test.YtfooolbjhhfbiaaDoorZamMem
namespace Go.Am
open Go.RowKit (Below)

def bytesV (s : ByteArray) : List Value := s.toList.map fun b => Value.int .u8 b.toNat

/-- The cells of the first n elements of what is appended, and n. -/
def appendedV (size : Nat) (h : Heap) : Value → Option (Nat × List Value)
  | .slice none 0 0 => some (0, [])
  | .slice (some ⟨j, off, none⟩) n es => if n = 0 then some (0, []) else if es = size then (h.cells j off (n * size)).map fun vs => (n, vs) else none
  | .string s => if size = 1 then some (s.size, s.data.toList.map fun b => Value.int .u8 b.toNat) else none
  | _ => none

/-- What append needs to know of the element's type: its cells and bytes, and that its zero value has as many cells. -/
def elemFits (P : Program) (elem : TypeId) : Option (Nat × Nat) :=
  match P.info? elem with
  | some ei => match ei.zero with
    | some z => if z.cells.size = ei.size && 0 < ei.size && 0 < ei.bytes then some (ei.size, ei.bytes) else none
    | none => none
  | none => none

def room : Nat := 140737488355328

def appendA (P : Program) (argTypes : Array TypeId) (args : List Value) (h : Heap) : Option (Value × Heap) :=
  match argTypes[0]?, argTypes[1]?, args with
  | some sType, some xType, [s, x] =>
    match P.underlying sType, P.underlying xType with
    | some (.slice _), some (.int _) => none
    | some (.slice elem), some _ =>
      match elemFits P elem with
      | none => none
      | some (size, bytes) =>
        match appendedV size h x with
        | none => none
        | some (n, new) =>
          if n = 0 then (match s with
            | .slice none 0 0 => some (s, h)
            | .slice (some ⟨_, _, none⟩) _ es => if es = size then some (s, h) else none
            | _ => none)
          else match s with
            | .slice none 0 0 => if n * bytes ≤ room then some (.slice (some ⟨h.next, 0, none⟩) n size, h.alloc (.cells false new)) else none
            | .slice (some ⟨i, off, none⟩) sLen es =>
              if es = size && decide ((sLen + n) * bytes ≤ room) && new.all (·.oneCell') then
                match h.obj i with
                | some (.cells false _) =>
                  (h.cells i off (sLen * size)).map fun old => (.slice (some ⟨h.next, 0, none⟩) (sLen + n) size, (h.put i none).alloc (.cells false (old ++ new)))
                | _ => none
              else none
            | _ => none
    | _, _ => none
  | _, _, _ => none

section
variable {G B : Nat} {w0 : World} {ρ : Ren} {h : Heap} {w : World} {P : Program}

theorem run_firstCells {a : Addr} {n cap size : Nat} {vs : List Value} (hl : vs.length = n * size) (hc : ∀ j v, vs[j]? = some v → w.cell? (a.add j) = some v) :
    (Builtin.firstCells size n (.slice (some a) n cap)).run P w = .ok vs.toArray w := by
  have := run_loadCells_list (P := P) w a vs hc
  simp only [Builtin.firstCells]
  rw [← hl]; exact this

theorem appendedV_sound (R : Rel G B w0 ρ h w) {size n : Nat} {x x' : Value} {new : List Value} (ha : appendedV size h x = some (n, new)) (hx : VRel ρ x x') :
    (Builtin.lenOf x').run P w = .ok n w ∧ new.length = n * size ∧ ∃ new', LRel ρ new new' ∧ (∀ w1 : World, w1.heap = w.heap → (Builtin.firstCells size n x').run P w1 = .ok new'.toArray w1) := by
  unfold appendedV at ha
  split at ha
  · simp at ha
    obtain ⟨rfl, rfl⟩ := ha
    cases hx
    exact ⟨rfl, by simp, [], .nil _, fun w1 _ => rfl⟩
  · rename_i j off n' es
    split at ha
    · rename_i h0
      subst h0
      simp at ha
      obtain ⟨rfl, rfl⟩ := ha
      cases hx with
      | slice hcap halt =>
        exact ⟨rfl, by simp, [], .nil _, fun w1 _ => by simp [Builtin.firstCells, loadCells, loadCellsFrom]⟩
    · rename_i h0
      split at ha
      · rename_i hes
        subst hes
        cases hc : h.cells j off (n' * es) with
        | none => simp [hc] at ha
        | some vs =>
          simp only [hc, Option.map_some, Option.some.injEq, Prod.mk.injEq] at ha
          obtain ⟨rfl, rfl⟩ := ha
          cases hx with
          | @slice _ _ _ _ b off' cap hcap halt =>
            rcases halt with h1 | ⟨base, N, hi, rfl, hN⟩
            · omega
            obtain ⟨hlen, _, vs', hv, hcell⟩ := R.cells hi hc
            refine ⟨rfl, hlen, vs', hv, fun w1 e => ?_⟩
            refine run_firstCells (by rw [← hv.1, hlen]) fun k v hk => ?_
            rw [addr_add]
            have := hcell k v hk
            simp only [World.cell?, e] at this ⊢
            exact this
      · cases ha
  · split at ha
    · rename_i s h1
      subst h1
      simp at ha
      obtain ⟨rfl, rfl⟩ := ha
      cases hx
      refine ⟨rfl, by simp, s.data.toList.map fun b => Value.int .u8 b.toNat, ⟨rfl, fun j v v' hv hv' => ?_⟩, fun w1 _ => ?_⟩
      · rw [hv] at hv'; cases hv'
        rw [List.getElem?_map] at hv
        cases hb : s.data.toList[j]? with
        | none => rw [hb] at hv; cases hv
        | some b => rw [hb] at hv; simp at hv; subst hv; exact .int _ _
      · have he : s.extract 0 s.size = s := by
          apply ByteArray.ext
          rw [ByteArray.data_extract]
          show s.data.extract 0 s.data.size = s.data
          simp
        have hm : (s.data.map fun b => Value.int .u8 b.toNat) = (s.data.toList.map fun b => Value.int .u8 b.toNat).toArray := Array.ext' (by rw [Array.toList_map])
        show (pure ((s.extract 0 s.size).data.map fun b => Value.int .u8 b.toNat) : Sem _).run P w1 = _
        rw [he, hm]; rfl
    · cases ha
  · cases ha

theorem elemFits_info {elem : TypeId} {size bytes : Nat} (he : elemFits P elem = some (size, bytes)) :
    ∃ ei z, P.info? elem = some ei ∧ ei.zero = some z ∧ ei.size = size ∧ ei.bytes = bytes ∧ z.cells.size = size ∧ 0 < size ∧ 0 < bytes := by
  unfold elemFits at he
  split at he
  · rename_i ei hi
    split at he
    · rename_i z hz
      split at he
      · rename_i hc
        simp at he hc
        obtain ⟨rfl, rfl⟩ := he
        exact ⟨ei, z, hi, hz, rfl, rfl, hc.1.1, hc.1.2, hc.2⟩
      · cases he
    · cases he
  · cases he

theorem zeroCells_size (z : Array Value) (k : Nat) : (Builtin.zeroCells z k).size = k * z.size := by simp [Builtin.zeroCells]

set_option maxHeartbeats 1600000 in
/-- The world behind a growing append. -/
theorem run_grow {elem : TypeId} {size bytes : Nat} (he : elemFits P elem = some (size, bytes)) {sType xType : TypeId} (hs : P.underlying sType = some (.slice elem)) {dx : TypeDesc}
    (hx : P.underlying xType = some dx) (hnx : ∀ k, dx ≠ .int k) {base : Option Addr} {sLen sCap n : Nat} {x' : Value} {old new : List Value} {ty : TypeId} {argTypes : Array TypeId}
    (h0 : argTypes[0]? = some sType) (h1 : argTypes[1]? = some xType) (hg : sCap < sLen + n) (hroom : (sLen + n) * bytes ≤ room)
    (hlen : (Builtin.lenOf x').run P w = .ok n w) (hold : ∀ w1 : World, w1.heap = w.heap → (Builtin.firstCells size sLen (.slice base sLen sCap)).run P w1 = .ok old.toArray w1)
    (hnew : ∀ w1 : World, w1.heap = w.heap → (Builtin.firstCells size n x').run P w1 = .ok new.toArray w1) (holdl : old.length = sLen * size) (hnewl : new.length = n * size) :
    ∃ w' C t cap, (Builtin.append_ argTypes ty #[.slice base sLen sCap, x']).run P w = .ok (.slice (some ⟨w.heap.size, 0, none⟩) (sLen + n) cap) w' ∧
      Below w.heap.size w w' ∧ w.heap.size < w'.heap.size ∧ w'.heap[w.heap.size]? = some (.cells C t (0, 0)) ∧ sLen + n ≤ cap ∧ C.size = cap * size ∧
      (∀ (m : Nat) v, (old ++ new)[m]? = some v → C[m]? = some v) := by
  obtain ⟨ei, z, hi, hz, hsz, hby, hzs, hp, hpb⟩ := elemFits_info he
  have hneed : ¬ (sLen + n ≤ sCap) := by omega
  have hfit : ¬ (Builtin.nextslicecap (sLen + n) sCap * ei.bytes > 2 ^ 48) := by
    have := growslice_fits (bytes := bytes) hg hroom
    rw [hby]; omega
  have hbig : ¬ (((sLen + n : Nat) : Int) > IntKind.i64.max ∧ (false = true ∨ ei.bytes = 0)) := by
    rw [hby]; intro hh; rcases hh.2 with h | h
    · cases h
    · omega
  have hforced : (Question.appendCap (sLen + n) sCap elem).forced = false := rfl
  let cap := (Question.appendCap (sLen + n) sCap elem).cut (w.tape w.drawn (.appendCap (sLen + n) sCap elem))
  have hcap : sLen + n ≤ cap := by show _ ≤ (sLen + n) + _; omega
  let C : Array Value := old.toArray ++ new.toArray ++ Builtin.zeroCells z.cells (cap - (sLen + n))
  refine ⟨(w.drew).alloc (.cells C elem), C, elem, cap, ?_, (Below.refl _ _).drew.alloc (Nat.le_refl _) _, by simp, heap_alloc_new w.drew _, hcap, ?_, ?_⟩
  · have e1 := hold w.drew rfl
    have e2 := hnew w.drew rfl
    have hb0 : ¬ ei.bytes = 0 := by omega
    have hz1 : ∀ w1 : World, (zeroValue elem).run P w1 = .ok z w1 := fun w1 => by simp [zeroValue, typeInfo, hi, hz]
    have hm : (match dx with | TypeDesc.int _ => true | _ => false) = false := by cases dx <;> first | rfl | exact absurd rfl (hnx _)
    first
      | (simp [Builtin.append_, h0, h1, run_underlying hs, run_underlying hx, sizeOf, typeInfo, hi, hsz, hlen, hneed, hfit, hb0, Question.forced, hz1, e1, e2, newRow, cap, C]; done)
  · simp [C, holdl, hnewl, zeroCells_size, hzs]
    rw [← Nat.add_mul, ← Nat.add_mul]
    congr 1
    omega
  · intro m v hm
    have hlt : m < (old ++ new).length := by
      rcases Nat.lt_or_ge m (old ++ new).length with h | h
      · exact h
      · rw [List.getElem?_eq_none h] at hm; cases hm
    have : (old.toArray ++ new.toArray)[m]? = some v := by simpa using hm
    simp only [C]
    rw [Array.getElem?_append_left (by simpa using hlt)]
    exact this


theorem Rel.newRow (R : Rel G B w0 ρ h w) {w' : World} {C : Array Value} {t : TypeId} {cs cs' : List Value}
    (hb : Below w.heap.size w w') (hs : w.heap.size < w'.heap.size) (hnew : w'.heap[w.heap.size]? = some (.cells C t (0, 0))) (hl : LRel ρ cs cs') (hC : ∀ (m : Nat) v, cs'[m]? = some v → C[m]? = some v) :
    Rel G B w0 (ρ.upd h.next (w.heap.size, 0, C.size)) (h.alloc (.cells false cs)) w' := by
  refine R.new hb hs hnew (Or.inr (Nat.le_refl _)) ?_ ?_
  · rcases Nat.lt_or_ge C.size cs.length with hlt | hge
    · have hj : C.size < cs'.length := hl.1 ▸ hlt
      have := hC C.size _ (List.getElem?_eq_getElem hj)
      simp at this
    · exact hge
  · intro m v hm
    obtain ⟨v', h1, h2⟩ := hl.get hm
    exact ⟨v', hC m v' h1, h2⟩

theorem VRel.newPtr {ρ : Ren} (i b n : Nat) : VRel (ρ.upd i (b, 0, n)) (.pointer (some ⟨i, 0, none⟩)) (.pointer (some ⟨b, 0, none⟩)) := by
  have : (ρ.upd i (b, 0, n)) i = some (b, 0, n) := by simp [Ren.upd]
  have k := VRel.ptr (off := 0) this
  simpa using k

set_option maxHeartbeats 1600000 in
theorem appendA_sound (R : Rel G B w0 ρ h w) {argTypes : Array TypeId} {args args' : List Value} {v : Value} {h' : Heap} (ha : appendA P argTypes args h = some (v, h')) (hargs : LRel ρ args args') (ty : TypeId) :
    ∃ v' w' ρ', (Builtin.append_ argTypes ty args'.toArray).run P w = .ok v' w' ∧ Ext ρ h ρ' h' ∧ Rel G B w0 ρ' h' w' ∧ VRel ρ' v v' := by
  unfold appendA at ha
  split at ha
  case h_2 => cases ha
  rename_i sType xType s x ht0 ht1
  obtain ⟨s', r, rfl, hs, hr⟩ := hargs.cons_inv
  obtain ⟨x', r, rfl, hx, hr⟩ := hr.cons_inv
  obtain rfl := hr.nil_inv
  split at ha
  · cases ha
  case h_3 => cases ha
  rename_i elem dx hnx hus hux
  have hnx' : ∀ k, dx ≠ .int k := hnx
  have hm : (match dx with | TypeDesc.int _ => true | _ => false) = false := by cases dx <;> first | rfl | exact absurd rfl (hnx' _)
  split at ha
  · cases ha
  rename_i size bytes hfit
  split at ha
  · cases ha
  rename_i n new hnewA
  obtain ⟨hlen, hnewl, new', hnr, hfirst⟩ := appendedV_sound (P := P) R hnewA hx
  obtain ⟨ei, z, hi, hz, hsz, hby, hzs, hp, hpb⟩ := elemFits_info hfit
  -- nothing to append
  have noop : ∀ (b : Option Addr) (len cap : Nat), n = 0 → len ≤ cap → s' = .slice b len cap → ∃ w', (Builtin.append_ argTypes ty #[s', x']).run P w = .ok s' w' ∧ w' = w := by
    intro b len cap hn hle hs'
    subst hn
    have hn0 : new' = [] := List.eq_nil_of_length_eq_zero (by rw [← hnr.1, hnewl]; simp)
    have hf := hfirst w rfl
    rw [hn0] at hf
    refine ⟨w, ?_, rfl⟩
    subst hs'
    first
      | (cases b <;> simp [Builtin.append_, ht0, ht1, run_underlying hus, run_underlying hux, sizeOf, typeInfo, hi, hsz, hlen, hle, hf, storeCells]; done)
  split at ha
  · rename_i hn
    split at ha
    · simp only [Option.some.injEq, Prod.mk.injEq] at ha
      obtain ⟨rfl, rfl⟩ := ha
      cases hs
      obtain ⟨w', hrun, rfl⟩ := noop none 0 0 hn (Nat.le_refl _) rfl
      exact ⟨_, _, ρ, hrun, Ext.refl _ _, R, .nilSlice⟩
    · split at ha
      · simp only [Option.some.injEq, Prod.mk.injEq] at ha
        obtain ⟨rfl, rfl⟩ := ha
        cases hs with
        | slice hc halt =>
          obtain ⟨w', hrun, rfl⟩ := noop _ _ _ hn hc rfl
          exact ⟨_, _, ρ, hrun, Ext.refl _ _, R, .slice hc halt⟩
      · cases ha
    · cases ha
  · rename_i hn
    split at ha
    · -- onto nil
      split at ha
      · rename_i hroom
        simp only [Option.some.injEq, Prod.mk.injEq] at ha
        obtain ⟨rfl, rfl⟩ := ha
        cases hs
        have hnl : new'.length = n * size := by rw [← hnr.1]; exact hnewl
        obtain ⟨w', C, t, cap, hrun, hb, hs2, hnew, hcap, hC, hcells⟩ := run_grow (w := w) (ty := ty) (argTypes := argTypes) (base := none) (sLen := 0) (sCap := 0) (n := n) (x' := x') (old := []) (new := new') hfit hus hux hnx' ht0 ht1
          (by omega) (by simpa using hroom) hlen (fun w1 _ => rfl) hfirst (by simp) hnl
        refine ⟨_, w', ρ.upd h.next (w.heap.size, 0, C.size), hrun, Ext.upd _ _ _ _, R.newRow hb hs2 hnew hnr (by simpa using hcells), ?_⟩
        simp only [Nat.zero_add] at hcap ⊢
        exact .slice hcap (.inr ⟨0, C.size, by simp [Ren.upd], by simp, by omega⟩)
      · cases ha
    · rename_i i off sLen es
      split at ha
      case isFalse => cases ha
      rename_i hc
      simp only [Bool.and_eq_true, decide_eq_true_eq] at hc
      obtain ⟨⟨rfl, hroom⟩, hone⟩ := hc
      split at ha
      case h_2 => cases ha
      rename_i cs0 hobj
      cases hold : h.cells i off (sLen * es) with
      | none => simp [hold] at ha
      | some old =>
        simp only [hold, Option.map_some, Option.some.injEq, Prod.mk.injEq] at ha
        obtain ⟨rfl, rfl⟩ := ha
        have hnl : new'.length = n * es := by rw [← hnr.1]; exact hnewl
        cases hs with
        | @slice _ _ _ _ b off' cap hcapl halt =>
          by_cases hin : sLen + n ≤ cap
          · -- there is room
            rcases halt with h1 | ⟨base, N, hi', rfl, hN⟩
            · omega
            obtain ⟨holdl, holdN, old', hor, hocell⟩ := R.cells hi' hold
            have hl := R.live i b base N _ hi' hobj
            obtain ⟨hB, hcells⟩ := hl.2.2 rfl
            have hspan : off + sLen * es + n * es ≤ N := by
              have : (sLen + n) * es ≤ cap * es := Nat.mul_le_mul_right _ hin
              rw [Nat.add_mul] at this
              omega
            have hsome : ∀ j, j < new'.length → (w.cell? ⟨b, base + off + sLen * es + j, none⟩).isSome = true := fun j hj => by
              have := (hcells (off + sLen * es + j) (by omega)).1
              rwa [show base + (off + sLen * es + j) = base + off + sLen * es + j by omega] at this
            have hfro : ∀ j, j < new'.length → w.frozen? ⟨b, base + off + sLen * es + j, none⟩ = false := fun j hj => by
              have := (hcells (off + sLen * es + j) (by omega)).2
              rwa [show base + (off + sLen * es + j) = base + off + sLen * es + j by omega] at this
            have hst := run_storeCells_cells (P := P) b (base + off + sLen * es) new' 0 w (by simpa using hsome) (by simpa using hfro) (hnr.allOne hone)
            simp only [Nat.add_zero] at hst
            have hf := hfirst w rfl
            have hrun : (Builtin.append_ argTypes ty #[.slice (some ⟨b, base + off, none⟩) sLen cap, x']).run P w =
                .ok (.slice (some ⟨b, base + off, none⟩) (sLen + n) cap) (w.setCells b (base + off + sLen * es) new') := by
              first
                | (simp [Builtin.append_, ht0, ht1, run_underlying hus, run_underlying hux, sizeOf, typeInfo, hi, hsz, hlen, hin, hf, addr_add, hst]; done)
            have R1 := R.update (o' := none) hi' hobj rfl (setCells_os b new' (base + off + sLen * es) w) (setCells_tape ..) (setCells_output ..) (setCells_size ..)
              (fun k hk => setCells_heap b new' _ w k hk) (by intro o e; cases e)
            have hblk : b < (w.setCells b (base + off + sLen * es) new').heap.size := by rw [setCells_size]; exact (R.dom _ _ _ _ hi').2
            have R2 := R1.extend (b := b) (base := base + off) (n := N - off) (o := .cells false (old ++ new)) hblk ?_ ?_
            · refine ⟨_, _, _, by simpa using hrun, Ext.upd ρ (h.put i none) _ _, R2, ?_⟩
              refine .slice hin (.inr ⟨base + off, N - off, by simp [Ren.upd], by simp, by omega⟩)
            · refine ⟨by simp [holdl, hnewl]; omega, fun m v hm => ?_, fun _ => ⟨hB, fun m hm => ⟨?_, ?_⟩⟩⟩
              · rw [cell_setCells b new' _ w hsome]
                by_cases hmo : m < old.length
                · rw [List.getElem?_append_left hmo] at hm
                  rw [if_neg (by omega)]
                  obtain ⟨v', h1, h2⟩ := hor.get hm
                  exact ⟨v', hocell m v' h1, h2.mono (R1.le_upd _)⟩
                · rw [List.getElem?_append_right (by omega)] at hm
                  obtain ⟨v', h1, h2⟩ := hnr.get hm
                  have hlt : m - old.length < new'.length := by
                    rcases Nat.lt_or_ge (m - old.length) new'.length with h | h
                    · exact h
                    · rw [List.getElem?_eq_none h] at h1; cases h1
                  rw [if_pos (by omega)]
                  refine ⟨v', ?_, h2.mono (R1.le_upd _)⟩
                  rw [← h1]; congr 1; omega
              · rw [cell_setCells b new' _ w hsome]
                split
                · rw [List.getElem?_eq_getElem (by omega)]; rfl
                · have := (hcells (off + m) (by omega)).1
                  rwa [show base + (off + m) = base + off + m by omega] at this
              · rw [World.frozen?_setCells]
                have := (hcells (off + m) (by omega)).2
                rwa [show base + (off + m) = base + off + m by omega] at this
            · intro j b' base' n' oj hj hoj
              rw [Heap.put_obj] at hoj
              split at hoj
              · cases hoj
              · rename_i hji
                exact (R.inj i j b base N b' base' n' _ oj (fun k => hji k.symm) hi' hj hobj hoj rfl).symm
          · -- it grows
            have hfo : ∃ old', LRel ρ old old' ∧ (∀ w1 : World, w1.heap = w.heap → (Builtin.firstCells es sLen (.slice (some ⟨b, off', none⟩) sLen cap)).run P w1 = .ok old'.toArray w1) ∧ old.length = sLen * es := by
              by_cases hz0 : sLen = 0
              · subst hz0
                have : old = [] := by
                  unfold Heap.cells at hold
                  rw [hobj] at hold
                  simp at hold
                  exact hold.2
                subst this
                exact ⟨[], .nil _, fun w1 _ => by simp [Builtin.firstCells, loadCells, loadCellsFrom], by simp⟩
              · rcases halt with h1 | ⟨base, N, hi', rfl, hN⟩
                · omega
                obtain ⟨holdl, holdN, old', hor, hocell⟩ := R.cells hi' hold
                refine ⟨old', hor, fun w1 e => run_firstCells (by rw [← hor.1, holdl]) fun k v hk => ?_, holdl⟩
                rw [addr_add]
                have := hocell k v hk
                simp only [World.cell?, e] at this ⊢
                exact this
            obtain ⟨old', hor, hof, holdl⟩ := hfo
            obtain ⟨w', C, t, cap', hrun, hb, hs2, hnew, hcap, hC, hcells⟩ := run_grow (w := w) (ty := ty) (argTypes := argTypes) (base := some ⟨b, off', none⟩) (sLen := sLen) (sCap := cap) (n := n) (x' := x') (old := old') (new := new') hfit hus hux hnx' ht0 ht1
              (by omega) hroom hlen hof hfirst (by rw [← hor.1]; exact holdl) hnl
            have R1 := R.kill i
            refine ⟨_, w', ρ.upd h.next (w.heap.size, 0, C.size), by simpa using hrun, Ext.upd ρ (h.put i none) _ _, R1.newRow hb hs2 hnew (hor.append hnr) hcells, ?_⟩
            exact .slice hcap (.inr ⟨0, C.size, by simp [Ren.upd], by simp, by omega⟩)
    · cases ha

end
end Go.Am
