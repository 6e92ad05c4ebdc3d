/-
  The abstract machine, part 13: what kinds of operations there are where the order is left open; each asks of its operands alone.
-/
import Derived.Test.YtfooolbjhhfbiaaDoorZamCode
namespace Go.Am
open Go.RowKit (Below)

inductive LKind where
  | pure | read | alloc | heavy
  deriving DecidableEq

def kindOf (P : Program) : Op → LKind
  | .move _ | .assign _ | .pick .. | .build .. | .nilCheck _ | .binOp .. | .unOp .. | .makeInterface .. | .makeFunc .. | .slice .. | .fieldAddr .. | .field ..
  | .indexAddr .. | .index .. | .typeAssert .. | .extract .. => .pure
  | .load .. | .lookup .. => .read
  | .convert _ d _ => match P.underlying d with
    | some (.slice _) => .heavy
    | _ => .read
  | .call c => match c.callee with
    | .builtin .len | .builtin .max | .builtin .min => .read
    | _ => .heavy
  | .alloc _ | .box .. | .buildSlice .. | .makeMap .. | .makeSlice .. => .alloc
  | _ => .heavy

section
variable {G B : Nat} {w0 : World} {P : Program}

theorem evalAll_congr {env env' : Env} : ∀ {l : List Operand}, (∀ x ∈ l, evalA G env x = evalA G env' x) → evalAll G env l = evalAll G env' l
  | [], _ => rfl
  | x :: l, h => by
    simp only [evalAll]
    rw [h x (by simp), evalAll_congr fun y hy => h y (by simp [hy])]

theorem evalParts_congr {env env' : Env} : ∀ {l : List (Nat × Operand)}, (∀ x ∈ l.map (·.2), evalA G env x = evalA G env' x) → evalParts G env l = evalParts G env' l
  | [], _ => rfl
  | (i, x) :: l, h => by
    simp only [evalParts]
    rw [h x (by simp), evalParts_congr fun y hy => h y (by simp at hy ⊢; exact .inr hy)]

theorem callA_congr {env env' : Env} {c : Call} {h : Heap} (he : ∀ x ∈ c.operands, evalA G env x = evalA G env' x) : callA P G env c h = callA P G env' c h := by
  have ha : evalAll G env c.args.toList = evalAll G env' c.args.toList := evalAll_congr fun x hx => he x (by simp [Call.operands]; right; simpa using hx)
  unfold callA
  rw [ha]
  cases hc : c.callee with
  | value f => simp only [he f (by simp [Call.operands, hc])]
  | invoke r m => simp only [he r (by simp [Call.operands, hc])]
  | builtin b => rfl

theorem opA_congr {env env' : Env} {o : Oper} {h : Heap} (he : ∀ x ∈ o.op.operands, evalA G env x = evalA G env' x) : opA P G env o h = opA P G env' o h := by
  unfold opA
  cases hop : o.op <;> rw [hop] at he <;> simp only [Op.operands] at he
  case move x => simp only [he x (by simp)]
  case assign x => simp only [he x (by simp)]
  case pick c x y => simp only [he c (by simp), he x (by simp), he y (by simp)]
  case box e x => simp only [he x (by simp)]
  case build t ps => simp only [evalParts_congr (l := ps.toList) fun x hx => he x (by simpa using hx)]
  case buildSlice t n ps => simp only [evalParts_congr (l := ps.toList) fun x hx => he x (by simpa using hx)]
  case load t x => simp only [he x (by simp)]
  case makeMap t r => cases r <;> rfl
  case store t x y => simp only [he x (by simp), he y (by simp)]
  case nilCheck x => simp only [he x (by simp)]
  case binOp op t x y yt => simp only [he x (by simp), he y (by simp)]
  case unOp op t x => simp only [he x (by simp)]
  case convert s d x => simp only [he x (by simp)]
  case makeInterface t x => simp only [he x (by simp)]
  case makeFunc fn f c => simp only [evalAll_congr (l := f.toList) fun x hx => he x (by simp; left; simpa using hx), evalAll_congr (l := c.toList) fun x hx => he x (by simp; right; simpa using hx)]
  case makeSlice t l c => simp only [he l (by simp), he c (by simp)]
  case slice t x lo hi mx =>
    cases mx with
    | some m => rfl
    | none => simp only [he x (by simp), evalAll_congr (l := lo.toList) fun y hy => he y (by simp; simp at hy; exact .inr (.inl hy)), evalAll_congr (l := hi.toList) fun y hy => he y (by simp; simp at hy; exact .inr (.inr hy))]
  case fieldAddr t x f => simp only [he x (by simp)]
  case field t x f => simp only [he x (by simp)]
  case indexAddr t x i => simp only [he x (by simp), he i (by simp)]
  case index t x i => simp only [he x (by simp), he i (by simp)]
  case lookup t x k ok => simp only [he x (by simp), he k (by simp)]
  case mapUpdate t m k x => simp only [he m (by simp), he k (by simp), he x (by simp)]
  case insert t m k x => simp only [he m (by simp), he k (by simp), he x (by simp)]
  case typeAssert x xt t ok => simp only [he x (by simp)]
  case extract t i => simp only [he t (by simp)]
  case call c => exact callA_congr he
  case panic x => simp only [he x (by simp)]

theorem Option.map_val {α : Type} {o : Option α} {f : α → ANext} {r : ANext} (h : o.map f = some r) : ∃ a, o = some a ∧ r = f a := by
  cases o with
  | none => cases h
  | some a => simp at h; exact ⟨a, rfl, h.symm⟩

/-- A pure operation asks nothing of the heap. -/
theorem opA_pure {env : Env} {o : Oper} {h : Heap} {r : ANext} (hk : kindOf P o.op = .pure) (hr : opA P G env o h = some r) :
    ∃ v, r = .val v h ∧ ∀ h', opA P G env o h' = some (.val v h') := by
  unfold opA at hr
  cases hop : o.op <;> rw [hop] at hk hr <;> simp only [kindOf] at hk <;> simp only at hr <;> first
    | (cases hk; done)
    | (split at hk <;> cases hk; done)
    | (obtain ⟨v, h1, rfl⟩ := Option.map_val hr; exact ⟨v, rfl, fun h' => by simp only [opA, hop, h1, Option.map_some]⟩)
    | (split at hr
       · rename_i h0; obtain ⟨v, h1, rfl⟩ := Option.map_val hr; refine ⟨v, rfl, fun h' => ?_⟩; simp only [opA, hop, h0, h1, Option.map_some]; done
       · cases hr
       done)
    | (split at hr
       · rename_i h0 h1; obtain ⟨v, h2, rfl⟩ := Option.map_val hr; refine ⟨v, rfl, fun h' => ?_⟩; simp only [opA, hop, h0, h1, h2, Option.map_some]; done
       · cases hr
       done)
    | skip
  case pick c x y =>
    split at hr
    · rename_i h0; obtain ⟨v, h1, rfl⟩ := Option.map_val hr; exact ⟨v, rfl, fun h' => by simp only [opA, hop, h0, h1, Option.map_some]⟩
    · rename_i h0; obtain ⟨v, h1, rfl⟩ := Option.map_val hr; exact ⟨v, rfl, fun h' => by simp only [opA, hop, h0, h1, Option.map_some]⟩
    · cases hr
  case binOp op t x y yt =>
    split at hr
    · rename_i u v hx hy
      split at hr
      · rename_i hq; obtain ⟨z, h1, rfl⟩ := Option.map_val hr; exact ⟨z, rfl, fun h' => by simp only [opA, hop, hx, hy, hq, h1, if_true, Option.map_some]⟩
      · cases hr
    · cases hr
  case makeInterface t x =>
    split at hr
    · cases hr
    · rename_i d v hd hu hx
      cases hr
      refine ⟨.iface t v, rfl, fun h' => ?_⟩
      simp only [opA, hop, hu, hx]
    · cases hr
  case makeFunc fn f c =>
    split at hr
    · rename_i f' c' h1 h2; cases hr; exact ⟨_, rfl, fun h' => by simp only [opA, hop, h1, h2]⟩
    · cases hr
  case slice t x lo hi mx =>
    cases mx with
    | some m => cases hr
    | none =>
      simp only at hr
      split at hr
      · rename_i h0 h1 h2; obtain ⟨v, h3, rfl⟩ := Option.map_val hr; exact ⟨v, rfl, fun h' => by simp only [opA, hop, h0, h1, h2, h3, Option.map_some]⟩
      · cases hr

/-- A reading operation leaves the heap as it is. -/
theorem opA_read {env : Env} {o : Oper} {h : Heap} {r : ANext} (hk : kindOf P o.op = .read) (hr : opA P G env o h = some r) : ∃ v, r = .val v h := by
  unfold opA at hr
  cases hop : o.op <;> rw [hop] at hk hr <;> simp only [kindOf] at hk <;> simp only at hr <;> first
    | (cases hk; done)
    | skip
  case load t x =>
    split at hr
    · obtain ⟨v, h1, rfl⟩ := Option.map_val hr; exact ⟨v, rfl⟩
    · cases hr
  case lookup t x k ok =>
    split at hr
    · obtain ⟨v, h1, rfl⟩ := Option.map_val hr; exact ⟨v, rfl⟩
    · cases hr
  case convert s d x =>
    split at hk
    · cases hk
    · rename_i hns
      split at hr
      · rename_i v hv
        obtain ⟨z, h1, rfl⟩ := Option.map_val hr
        obtain ⟨z, h'⟩ := z
        refine ⟨z, ?_⟩
        unfold convertA at h1
        split at h1
        · cases h1; rfl
        · cases h1; rfl
        · cases h1; rfl
        · rename_i hd; exact (hns _ hd).elim
        · split at h1
          · split at h1
            · cases h1; rfl
            · split at h1
              · cases h1; rfl
              · split at h1
                · split at h1
                  · rename_i vs hvs
                    cases hb : bytesOfCells vs with
                    | none => simp [hb] at h1
                    | some l => simp [hb] at h1; rw [h1.2]
                  · cases h1
                · cases h1
            · cases h1
          · cases h1
        · cases h1
      · cases hr
  case call c =>
    unfold callA at hr
    split at hr
    · cases hr
    · rename_i args hargs
      split at hk <;> rename_i hc <;> try (cases hk; done)
      all_goals
        rw [hc] at hr
        simp only at hr
      · split at hr
        · obtain ⟨v, h1, rfl⟩ := Option.map_val hr; exact ⟨v, rfl⟩
        · cases hr
      · obtain ⟨v, h1, rfl⟩ := Option.map_val hr; exact ⟨v, rfl⟩
      · obtain ⟨v, h1, rfl⟩ := Option.map_val hr; exact ⟨v, rfl⟩


/-- What an operation that makes memory comes to: a new row (or map), and a value that names it by the number that it was given. -/
def MadeRel (P : Program) (ρ : Ren) (a : Act) (o : Oper) (v : Value) (id : Nat) (obj : AObj) : Prop :=
  (∃ cs cs' t, obj = .cells false cs ∧ LRel ρ cs cs'.toList ∧ ∃ mk : Nat → Value, (∀ w : World, (execOp a.eval o).run P w = .ok (.value (mk w.heap.size)) (w.alloc (.cells cs' t))) ∧
    ∀ (ρ' : Ren) (b : Nat), ρ.le ρ' → ρ' id = some (b, 0, cs'.size) → VRel ρ' v (mk b)) ∨
  (obj = .map [] ∧ (∀ w : World, (execOp a.eval o).run P w = .ok (.value (.map (some w.heap.size))) (w.alloc (.map #[] 0))) ∧ v = .map (some id))

theorem opA_alloc {ρ : Ren} {H : Heap} {w : World} {a : Act} {env : Env} {o : Oper} {h : Heap} {r : ANext} (R : Rel G B w0 ρ H w) (he : EnvRel ρ env a) (hk : kindOf P o.op = .alloc) (hr : opA P G env o h = some r) :
    ∃ v obj, r = .val v (h.alloc obj) ∧ MadeRel P ρ a o v h.next obj := by
  unfold opA at hr
  cases hop : o.op <;> rw [hop] at hk hr <;> simp only [kindOf] at hk <;> simp only at hr <;> first
    | (cases hk; done)
    | (split at hk <;> cases hk; done)
    | skip
  case alloc e =>
    obtain ⟨z, hz, rfl⟩ := Option.map_val hr
    have hzc : VRel ρ z z := (zeroT_run (ρ := ρ) hz w).2
    refine ⟨_, _, rfl, .inl ⟨_, z.cells, e, rfl, hzc.cells, fun b => .pointer (some ⟨b, 0, none⟩), fun w1 => ?_, fun ρ' b hl hi => ?_⟩⟩
    · have h1 := (zeroT_run (P := P) (ρ := ρ) hz w1).1
      simp [execOp, hop, Instr.alloc, h1, newVar, newRow]
    · have := VRel.ptr (off := 0) hi; simpa using this
  case box e x =>
    obtain ⟨v, hx, rfl⟩ := Option.map_val hr
    have hv := evalA_sound R he hx
    refine ⟨_, _, rfl, .inl ⟨_, (a.eval x).cells, e, rfl, hv.cells, fun b => .pointer (some ⟨b, 0, none⟩), fun w1 => ?_, fun ρ' b hl hi => ?_⟩⟩
    · simp [execOp, hop, Instr.box, newVar, newRow]
    · have := VRel.ptr (off := 0) hi; simpa using this
  case buildSlice t len parts =>
    split at hr
    · rename_i ps hps
      obtain ⟨x, hb, rfl⟩ := Option.map_val hr
      obtain ⟨v, h'⟩ := x
      have hp := evalParts_sound R he hps
      have e1 : (parts.map fun (i, x) => (i, a.eval x)) = (parts.toList.map fun (i, x) => (i, a.eval x)).toArray := by apply Array.ext'; rw [Array.toList_map]
      obtain ⟨n, cs, cs', e, rfl, rfl, h2, hsz, hrun⟩ := buildSliceA_core hb hp
      refine ⟨_, _, rfl, .inl ⟨cs, cs', e, rfl, h2, fun b => .slice (some ⟨b, 0, none⟩) len len, fun w1 => ?_, fun ρ' b hl hi => ?_⟩⟩
      · simp only [execOp, hop]
        rw [e1]
        have := hrun w1
        simp at this
        simp [this]
      · exact .slice (Nat.le_refl _) (.inr ⟨0, cs'.size, hi, by simp, by omega⟩)
    · cases hr
  case makeMap t res =>
    cases res with
    | some q => cases hr
    | none =>
      cases hr
      exact ⟨_, _, rfl, .inr ⟨rfl, fun w1 => by simp [execOp, hop, Instr.makeMap], rfl⟩⟩
  case makeSlice t l c =>
    split at hr
    · rename_i lv cv hl hc
      obtain ⟨x, hb, rfl⟩ := Option.map_val hr
      obtain ⟨v, h'⟩ := x
      obtain ⟨n, len, cap, cs, cs', e, rfl, rfl, hle, h2, hsz, hrun⟩ := makeSliceA_core hb (evalA_sound R he hl) (evalA_sound R he hc)
      refine ⟨_, _, rfl, .inl ⟨cs, cs', e, rfl, h2, fun b => .slice (some ⟨b, 0, none⟩) len cap, fun w1 => ?_, fun ρ' b hl hi => ?_⟩⟩
      · simp [execOp, hop, hrun w1]
      · exact .slice hle (.inr ⟨0, cs'.size, hi, by simp, by omega⟩)
    · cases hr

end
end Go.Am
