/-
  The abstract machine, part 10: the theorem on one operation.
-/
import Derived.Test.YtfooolbjhhfbiaaDoorZamSound3
namespace Go.Am
open Go.RowKit (Below)

section
variable {G B : Nat} {w0 : World} {ρ : Ren} {h : Heap} {w : World} {P : Program} {env : Env} {a : Act}

theorem callA_sound (R : Rel G B w0 ρ h w) (he : EnvRel ρ env a) {c : Call} {o : Oper} (ho : o.op = .call c) {r : ANext} (hc : callA P G env c h = some r) :
    Out P G B w0 ρ h w ((execOp a.eval o).run P w) r := by
  unfold callA at hc
  split at hc
  · cases hc
  rename_i args hargs
  have hA := evalAll_sound R he hargs
  split at hc
  · rename_i f hcal
    split at hc
    · rename_i fn first captured hf
      have hF := evalA_sound R he hf
      generalize hev : a.eval f = fv at hF
      cases hF with
      | @func _ _ f' _ c' h1 h2 h3 h4 =>
        obtain ⟨hff, hcc⟩ := VRel.func_iff.1 (VRel.func (fn := fn) h1 h2 h3 h4)
        have hl : LRel ρ (first.toList ++ args) (f' ++ c.args.map a.eval).toList := by
          rw [Array.toList_append, Array.toList_map]; exact hff.append hA
        obtain ⟨g, as, as', rfl, hb, hrun, hlr⟩ := invokeA_sound hc hl hcc w
        refine ⟨hb, as', ?_, hlr⟩
        simp only [execOp, ho, Sem.run_bind, resolve, hcal, hev, Deferred.ofValue, Sem.run_pure, Result.andThen_ok]
        exact hrun
    · cases hc
  · rename_i recv name hcal
    split at hc
    · rename_i v hv
      have hV := evalA_sound R he hv
      have hl : LRel ρ (v :: args) (#[a.eval recv] ++ c.args.map a.eval).toList := by
        rw [Array.toList_append, Array.toList_map]; exact .cons hV hA
      obtain ⟨g, as, as', rfl, hb, hrun, hlr⟩ := invokeA_sound (captured' := #[]) hc hl (.nil _) w
      refine ⟨hb, as', ?_, hlr⟩
      simp only [execOp, ho, Sem.run_bind, resolve, hcal, Sem.run_pure, Result.andThen_ok]
      exact hrun
    · cases hc
  · rename_i b hcal
    obtain ⟨cs, hres0⟩ : ∃ cs : Array Bool, resolve a.eval c o.type = Pure.pure { target := .builtin b c.argTypes o.type cs, args := c.args.map a.eval } := by
      simp only [resolve, hcal]; exact ⟨_, rfl⟩
    have hres : ∀ (K : Deferred → Sem Next), ((resolve a.eval c o.type) >>= K).run P w = (K { target := .builtin b c.argTypes o.type cs, args := c.args.map a.eval }).run P w := fun K => by
      rw [hres0]; simp
    have hargs' : (c.args.map a.eval).toList = c.args.toList.map a.eval := by rw [Array.toList_map]
    split at hc
    · cases hap : appendA P c.argTypes args h with
      | none => simp [hap] at hc
      | some x =>
        obtain ⟨v, h'⟩ := x
        simp [hap] at hc; subst hc
        obtain ⟨v', w', ρ', hrun, hle, hR, hv⟩ := appendA_sound (P := P) R hap hA o.type
        refine ⟨v', w', ρ', ?_, hle, hR, hv⟩
        simp only [execOp, ho, hres, invoke, builtin]
        have : c.args.map a.eval = (c.args.toList.map a.eval).toArray := by rw [← hargs']
        rw [this]
        simp [hrun]
    · split at hc
      · rename_i t x ht
        cases hl : lenA P t x h with
        | none => simp [hl] at hc
        | some v =>
          simp [hl] at hc; subst hc
          obtain ⟨x', l', e, hx, hn⟩ := hA.cons_inv
          obtain rfl := hn.nil_inv
          obtain ⟨hrun, hv⟩ := lenA_sound (ty := o.type) R ht hl hx
          refine Out.same R hv ?_
          have : c.args.map a.eval = #[x'] := by apply Array.ext'; rw [hargs', e]
          simp only [execOp, ho, hres, invoke, builtin, this]
          simp [hrun]
      · cases hc
    · cases hcp : copyA P c.argTypes args h with
      | none => simp [hcp] at hc
      | some x =>
        obtain ⟨v, h'⟩ := x
        simp [hcp] at hc; subst hc
        rw [← hargs'] at hA
        obtain ⟨w', hrun, hR, hv⟩ := copyA_sound (P := P) R hcp hA o.type
        refine ⟨v, w', ρ, ?_, Ext.same _ (copyA_next hcp), hR, hv⟩
        simp only [execOp, ho, hres, invoke, builtin]
        simp [hrun]
    · cases hm : maxA true args with
      | none => simp [hm] at hc
      | some v =>
        simp [hm] at hc; subst hc
        rw [← hargs'] at hA
        obtain ⟨hrun, hv⟩ := maxA_sound (P := P) hm hA c.argTypes o.type w
        refine Out.same R hv ?_
        simp at hrun
        simp only [execOp, ho, hres, invoke, builtin]
        simp [hrun]
    · cases hm : maxA false args with
      | none => simp [hm] at hc
      | some v =>
        simp [hm] at hc; subst hc
        rw [← hargs'] at hA
        obtain ⟨hrun, hv⟩ := maxA_sound (P := P) hm hA c.argTypes o.type w
        refine Out.same R hv ?_
        simp at hrun
        simp only [execOp, ho, hres, invoke, builtin]
        simp [hrun]
    · split at hc
      · rename_i t v
        cases hc
        obtain ⟨x', l', e, hx, hn⟩ := hA.cons_inv
        obtain rfl := hn.nil_inv
        have : c.args.map a.eval = #[x'] := by apply Array.ext'; rw [hargs', e]
        refine ⟨x', ?_, hx⟩
        cases hx
        simp only [execOp, ho, hres, invoke, builtin, this]
        simp [Instr.panic]
      · cases hc
    · cases hc

theorem opA_sound (R : Rel G B w0 ρ h w) (he : EnvRel ρ env a) {o : Oper} {r : ANext} (hr : opA P G env o h = some r) :
    Out P G B w0 ρ h w ((execOp a.eval o).run P w) r := by
  unfold opA at hr
  split at hr
  · rename_i x ho
    cases hx : evalA G env x with
    | none => simp [hx] at hr
    | some v => simp [hx] at hr; subst hr; exact Out.same R (evalA_sound R he hx) (by simp [execOp, ho])
  · rename_i x ho
    cases hx : evalA G env x with
    | none => simp [hx] at hr
    | some v => simp [hx] at hr; subst hr; exact Out.same R (evalA_sound R he hx) (by simp [execOp, ho])
  · rename_i c x y ho
    split at hr
    · rename_i hc
      have hcv := evalA_sound R he hc
      cases hx : evalA G env x with
      | none => simp [hx] at hr
      | some v =>
        simp [hx] at hr; subst hr
        generalize hec : a.eval c = cv at hcv
        cases hcv
        exact Out.same R (evalA_sound R he hx) (by simp [execOp, ho, hec, asBool])
    · rename_i hc
      have hcv := evalA_sound R he hc
      cases hx : evalA G env y with
      | none => simp [hx] at hr
      | some v =>
        simp [hx] at hr; subst hr
        generalize hec : a.eval c = cv at hcv
        cases hcv
        exact Out.same R (evalA_sound R he hx) (by simp [execOp, ho, hec, asBool])
    · cases hr
  · rename_i e ho
    cases hz : zeroT P e with
    | none => simp [hz] at hr
    | some z =>
      simp [hz] at hr; subst hr
      obtain ⟨h1, h2⟩ := zeroT_run (ρ := ρ) hz w
      obtain ⟨h3, h4⟩ := newA_sound (P := P) R e h2.cells
      refine ⟨_, _, _, ?_, Ext.upd _ _ _ _, h4, VRel.newPtr _ _ _⟩
      simp [execOp, ho, Instr.alloc, h1, newVar, h3]
  · rename_i e x ho
    cases hx : evalA G env x with
    | none => simp [hx] at hr
    | some v =>
      simp [hx] at hr; subst hr
      obtain ⟨h3, h4⟩ := newA_sound (P := P) R e (evalA_sound R he hx).cells
      refine ⟨_, _, _, ?_, Ext.upd _ _ _ _, h4, VRel.newPtr _ _ _⟩
      simp [execOp, ho, Instr.box, newVar, h3]
  · rename_i t parts ho
    split at hr
    · rename_i ps hps
      have hp := evalParts_sound R he hps
      cases hb : buildA P t ps with
      | none => simp [hb] at hr
      | some v =>
        simp [hb] at hr; subst hr
        obtain ⟨v', h1, h2⟩ := buildA_sound hb hp w
        refine Out.same R h2 ?_
        have : (parts.map fun (i, x) => (i, a.eval x)) = (parts.toList.map fun (i, x) => (i, a.eval x)).toArray := by apply Array.ext'; rw [Array.toList_map]
        simp only [execOp, ho]
        rw [this]
        simp at h1
        simp [h1]
    · cases hr
  · rename_i t len parts ho
    split at hr
    · rename_i ps hps
      have hp := evalParts_sound R he hps
      cases hb : buildSliceA P t len ps h with
      | none => simp [hb] at hr
      | some x =>
        obtain ⟨v, h'⟩ := x
        simp [hb] at hr; subst hr
        obtain ⟨v', w', ρ', h1, h2, h3, h4⟩ := buildSliceA_sound R hb hp
        refine ⟨v', w', ρ', ?_, h2, h3, h4⟩
        have : (parts.map fun (i, x) => (i, a.eval x)) = (parts.toList.map fun (i, x) => (i, a.eval x)).toArray := by apply Array.ext'; rw [Array.toList_map]
        simp only [execOp, ho]
        rw [this]
        simp at h1
        simp [h1]
    · cases hr
  · rename_i t x ho
    split at hr
    · rename_i i off hx
      have hv := evalA_sound R he hx
      cases hl : loadA P t i off h with
      | none => simp [hl] at hr
      | some v =>
        simp [hl] at hr; subst hr
        generalize hec : a.eval x = cv at hv
        cases hv with
        | ptr hi =>
          obtain ⟨v', h1, h2⟩ := loadA_sound (P := P) R hi hl
          exact Out.same R h2 (by simp [execOp, ho, hec, Instr.loadAt, Instr.sureAddr, h1])
    · cases hr
  · rename_i t x y ho
    split at hr
    · rename_i i off v hx hy
      have hv := evalA_sound R he hx
      have hvy := evalA_sound R he hy
      cases hl : storeA P t i off v h with
      | none => simp [hl] at hr
      | some h' =>
        simp [hl] at hr; subst hr
        generalize hec : a.eval x = cv at hv
        cases hv with
        | ptr hi =>
          obtain ⟨w', h1, h2⟩ := storeA_sound (P := P) R hi hl hvy
          exact ⟨w', ρ, by simp [execOp, ho, hec, Instr.storeAt, Instr.sureAddr, h1], Ext.same _ (storeA_next hl), h2⟩
    · cases hr
  · rename_i x ho
    split at hr
    · rename_i v hx
      cases hn : nilCheckA P v with
      | none => simp [hn] at hr
      | some y =>
        simp [hn] at hr; subst hr
        obtain ⟨h1, h2⟩ := nilCheckA_sound hn (evalA_sound R he hx) a.eval o x ho rfl w
        exact Out.same R h2 h1
    · cases hr
  · rename_i op t x y yt ho
    split at hr
    · rename_i u v hx hy
      split at hr
      · rename_i hq
        cases hb : binA P op t u v with
        | none => simp [hb] at hr
        | some z =>
          simp [hb] at hr; subst hr
          obtain ⟨h1, h2⟩ := binA_sound hb (evalA_sound R he hx) (evalA_sound R he hy) w
          have hg := eqAsk_sound hq (evalA_sound R he hx) (evalA_sound R he hy) w
          exact Out.same R h2 (by simp [execOp, ho, hg, h1])
      · cases hr
    · cases hr
  · rename_i op t x ho
    split at hr
    · rename_i v hx
      cases hb : unA op v with
      | none => simp [hb] at hr
      | some z =>
        simp [hb] at hr; subst hr
        obtain ⟨h1, h2⟩ := unA_sound (P := P) hb (evalA_sound R he hx) w
        exact Out.same R h2 (by simp [execOp, ho, h1])
    · cases hr
  · rename_i s d x ho
    split at hr
    · rename_i v hx
      cases hb : convertA P s d v h with
      | none => simp [hb] at hr
      | some z =>
        obtain ⟨z, h'⟩ := z
        simp [hb] at hr; subst hr
        obtain ⟨v', w', ρ', h1, h2, h3, h4⟩ := convertA_sound (P := P) R hb (evalA_sound R he hx)
        exact ⟨v', w', ρ', by simp [execOp, ho, h1], h2, h3, h4⟩
    · cases hr
  · rename_i t x ho
    split at hr
    · cases hr
    · rename_i d v hd hu hx
      cases hr
      refine Out.same R (.iface (evalA_sound R he hx)) ?_
      cases d <;> first | exact (hd _ rfl).elim | simp [execOp, ho, Instr.makeInterface, run_underlying hu]
    · cases hr
  · rename_i fn first captured ho
    split at hr
    · rename_i f c hf hc
      cases hr
      refine Out.same R (VRel.func_iff.2 ⟨?_, ?_⟩) (by simp [execOp, ho, Instr.makeFunc]; exact ⟨rfl, rfl⟩)
      · rw [Array.toList_map]; exact evalAll_sound R he hf
      · rw [Array.toList_map]; exact evalAll_sound R he hc
    · cases hr
  · rename_i t ho
    cases hr
    have hb : Below w.heap.size w (w.alloc (.map #[] 0)) := (Below.refl _ _).alloc (Nat.le_refl _) _
    have R' := R.grow hb
    have R2 := R'.extend (b := w.heap.size) (base := 0) (n := 0) (o := .map []) (by simp) ⟨R.size, #[], 0, heap_alloc_new w _, .nil _, .nil _⟩ (fun j b' base' n' oj hj hoj => by
      have := (R.dom j b' base' n' hj).2
      omega)
    exact ⟨_, _, _, by simp [execOp, ho, Instr.makeMap]; rfl, Ext.upd _ _ _ _, R2, .map (by simp [Ren.upd]; exact ⟨rfl, rfl⟩)⟩
  · rename_i t l c ho
    split at hr
    · rename_i lv cv hl hc
      cases hb : makeSliceA P t lv cv h with
      | none => simp [hb] at hr
      | some z =>
        obtain ⟨z, h'⟩ := z
        simp [hb] at hr; subst hr
        obtain ⟨v', w', ρ', h1, h2, h3, h4⟩ := makeSliceA_sound (P := P) R hb (evalA_sound R he hl) (evalA_sound R he hc)
        exact ⟨v', w', ρ', by simp [execOp, ho, h1], h2, h3, h4⟩
    · cases hr
  · rename_i t x lo hi ho
    split at hr
    · rename_i v l hh hx hl hhi
      cases hb : sliceA P t v l.head? hh.head? with
      | none => simp [hb] at hr
      | some z =>
        simp [hb] at hr; subst hr
        have b1 : BRel ρ l.head? (lo.map a.eval) := by
          have := evalAll_head R he hl
          unfold BRel; exact this
        have b2 : BRel ρ hh.head? (hi.map a.eval) := by
          have := evalAll_head R he hhi
          unfold BRel; exact this
        obtain ⟨v', h1, h2⟩ := sliceA_sound (P := P) hb (evalA_sound R he hx) b1 b2 w
        exact Out.same R h2 (by simp [execOp, ho, h1])
    · cases hr
  · rename_i t x f ho
    split at hr
    · rename_i v hx
      cases hb : fieldAddrA P t v f with
      | none => simp [hb] at hr
      | some z =>
        simp [hb] at hr; subst hr
        obtain ⟨v', h1, h2⟩ := fieldAddrA_sound (P := P) hb (evalA_sound R he hx) w
        exact Out.same R h2 (by simp [execOp, ho, h1])
    · cases hr
  · rename_i t x f ho
    split at hr
    · rename_i v hx
      cases hb : fieldA P t v f with
      | none => simp [hb] at hr
      | some z =>
        simp [hb] at hr; subst hr
        obtain ⟨v', h1, h2⟩ := fieldA_sound (P := P) hb (evalA_sound R he hx) w
        exact Out.same R h2 (by simp [execOp, ho, h1])
    · cases hr
  · rename_i t x i ho
    split at hr
    · rename_i v k hx hk
      cases hb : indexAddrA P t v k with
      | none => simp [hb] at hr
      | some z =>
        simp [hb] at hr; subst hr
        obtain ⟨v', h1, h2⟩ := indexAddrA_sound (P := P) hb (evalA_sound R he hx) (evalA_sound R he hk) w
        exact Out.same R h2 (by simp [execOp, ho, h1])
    · cases hr
  · rename_i t x i ho
    split at hr
    · rename_i v k hx hk
      cases hb : indexA P t v k with
      | none => simp [hb] at hr
      | some z =>
        simp [hb] at hr; subst hr
        obtain ⟨v', h1, h2⟩ := indexA_sound (P := P) hb (evalA_sound R he hx) (evalA_sound R he hk) w
        exact Out.same R h2 (by simp [execOp, ho, h1])
    · cases hr
  · rename_i t x k ok ho
    split at hr
    · rename_i m kv hx hk
      cases hb : lookupA P t m kv ok h with
      | none => simp [hb] at hr
      | some z =>
        simp [hb] at hr; subst hr
        obtain ⟨v', h1, h2⟩ := lookupA_sound (P := P) R hb (evalA_sound R he hx) (evalA_sound R he hk)
        exact Out.same R h2 (by simp [execOp, ho, h1])
    · cases hr
  · rename_i t m k x ho
    split at hr
    · rename_i mv kv xv hm hk hx
      cases hb : updateA P t mv kv xv h with
      | none => simp [hb] at hr
      | some h' =>
        simp [hb] at hr; subst hr
        obtain ⟨w', h1, h2⟩ := updateA_sound (P := P) R hb (evalA_sound R he hm) (evalA_sound R he hk) (evalA_sound R he hx)
        exact ⟨w', ρ, by simp [execOp, ho, h1], Ext.same _ (updateA_next hb), h2⟩
    · cases hr
  · rename_i t m k x ho
    split at hr
    · rename_i mv kv xv hm hk hx
      cases hb : updateA P t mv kv xv h with
      | none => simp [hb] at hr
      | some h' =>
        simp [hb] at hr; subst hr
        obtain ⟨w', h1, h2⟩ := updateA_sound (P := P) R hb (evalA_sound R he hm) (evalA_sound R he hk) (evalA_sound R he hx)
        exact ⟨w', ρ, by simp [execOp, ho, h1], Ext.same _ (updateA_next hb), h2⟩
    · cases hr
  · rename_i x xt t ok ho
    split at hr
    · rename_i v hx
      cases hb : assertA P v t ok with
      | none => simp [hb] at hr
      | some z =>
        simp [hb] at hr; subst hr
        obtain ⟨v', h1, h2⟩ := assertA_sound (P := P) (xt := xt) hb (evalA_sound R he hx) w
        exact Out.same R h2 (by simp [execOp, ho, h1])
    · cases hr
  · rename_i t i ho
    split at hr
    · rename_i vs hx
      have hv := evalA_sound R he hx
      cases hb : vs[i]? with
      | none => simp [hb] at hr
      | some v =>
        simp [hb] at hr; subst hr
        generalize hec : a.eval t = cv at hv
        cases hv with
        | @tuple _ vs' h1 h2 =>
          have hl := VRel.tuple_iff.1 (VRel.tuple h1 h2)
          obtain ⟨v', h3, h4⟩ := hl.get (j := i) (v := v) (by simpa using hb)
          have h5 : vs'[i]? = some v' := by simpa using h3
          exact Out.same R h4 (by simp [execOp, ho, hec, Instr.extract, h5])
    · cases hr
  · rename_i c ho
    exact callA_sound R he ho hr
  · rename_i x ho
    split at hr
    · rename_i t v hx
      cases hr
      have hv := evalA_sound R he hx
      refine ⟨a.eval x, ?_, hv⟩
      generalize hec : a.eval x = cv at hv
      cases hv
      simp [execOp, ho, hec, Instr.panic]
    · cases hr
  · cases hr

end
end Go.Am
