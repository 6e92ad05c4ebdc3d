/-
  The abstract machine, part 15: a region whose order is drawn, the theorem.
-/
import Derived.Test.YtfooolbjhhfbiaaDoorZamDraw
namespace Go.Am
open Go.RowKit (Below)

section
variable {G B : Nat} {w0 : World} {P : Program} {n : Nat} {ops : Array Oper}

theorem Rel.garbage {ρ : Ren} {h : Heap} {w : World} (R : Rel G B w0 ρ h w) (o : AObj) : Rel G B w0 ρ (h.alloc o) w where
  below := R.below
  base := R.base
  dom i b base n hi := ⟨by have := (R.dom i b base n hi).1; simp; omega, (R.dom i b base n hi).2⟩
  glob := R.glob
  live i b base n oi hi ho := by
    rw [Heap.alloc_obj, if_neg (by have := (R.dom i b base n hi).1; omega)] at ho
    exact R.live i b base n oi hi ho
  inj i j b base n b' base' n' oi oj hne hi hj hoi hoj hr := by
    rw [Heap.alloc_obj, if_neg (by have := (R.dom i b base n hi).1; omega)] at hoi
    rw [Heap.alloc_obj, if_neg (by have := (R.dom j b' base' n' hj).1; omega)] at hoj
    exact R.inj i j b base n b' base' n' oi oj hne hi hj hoi hoj hr

theorem putA_get {dst : Option Tmp} {v : Value} {env env' : Env} (hp : putA n dst v env = some env') :
    (∀ d, dst = some d → d < n ∧ env' d = some v) ∧ ∀ d, dst ≠ some d → env' d = env d := by
  unfold putA at hp
  split at hp
  · cases hp; exact ⟨(fun d hd => by cases hd), fun d _ => rfl⟩
  · rename_i d
    split at hp
    · rename_i hd
      cases hp
      refine ⟨fun d' hd' => ?_, fun d' hd' => ?_⟩
      · cases hd'; exact ⟨hd, by simp⟩
      · have : d' ≠ d := fun e => hd' (by rw [e])
        simp [this]
    · cases hp

theorem lightRec_out {x : PItem} {o : Oper} {env e : Env} {h h' : Heap} {p : PRec} (ho : ops[x.i]? = some o) (hk : kindOf P o.op = x.kind) (hx : x.kind ≠ .heavy) (hl : lightRec P G n ops x o env h = some (p, e, h')) :
    p.x = x ∧ p.o = o ∧ p.env = env ∧ p.h = h ∧ p.h1 = h' ∧ putA n o.dst p.v env = some e ∧ p.Ok P G n ops ∧
      ((h' = h ∧ (x.kind = .alloc → p.w = false)) ∨ (x.kind = .alloc ∧ ∃ v obj, h' = h.alloc obj ∧ p.w = true ∧ opA P G env o h = some (.val v (h.alloc obj)))) := by
  unfold lightRec at hl
  split at hl
  · cases hl
  · rename_i hw
    cases hp : putA n o.dst undef env with
    | none => simp [hp] at hl
    | some e' =>
      simp only [hp, Option.map_some, Option.some.injEq, Prod.mk.injEq] at hl
      obtain ⟨rfl, rfl, rfl⟩ := hl
      exact ⟨rfl, rfl, rfl, rfl, rfl, hp, ⟨ho, hk, hx, hw, (fun h => by cases h), (fun _ => ⟨rfl, rfl⟩), fun d hd => ((putA_get hp).1 d hd).1⟩, .inl ⟨rfl, fun _ => rfl⟩⟩
  · rename_i hw
    split at hl
    · rename_i v h2 hop
      cases hp : putA n o.dst v env with
      | none => simp [hp] at hl
      | some e' =>
        simp only [hp, Option.map_some, Option.some.injEq, Prod.mk.injEq] at hl
        obtain ⟨rfl, rfl, rfl⟩ := hl
        refine ⟨rfl, rfl, rfl, rfl, rfl, hp, ⟨ho, hk, hx, hw, (fun _ => hop), (fun h => by cases h), fun d hd => ((putA_get hp).1 d hd).1⟩, ?_⟩
        cases hkx : x.kind with
        | heavy => exact absurd hkx hx
        | pure =>
          obtain ⟨v', e1, _⟩ := opA_pure (hk.trans hkx) hop
          cases e1
          exact .inl ⟨rfl, fun h => by cases h⟩
        | read =>
          obtain ⟨v', e1⟩ := opA_read (hk.trans hkx) hop
          cases e1
          exact .inl ⟨rfl, fun h => by cases h⟩
        | alloc =>
          have hform : ∃ obj, h2 = h.alloc obj := by
            -- the form of what is made
            have hk2 := hk.trans hkx
            unfold opA at hop
            cases hoo : o.op <;> rw [hoo] at hk2 hop <;> simp only [kindOf] at hk2 <;> simp only at hop <;> first
              | (cases hk2; done)
              | (split at hk2 <;> cases hk2; done)
              | skip
            case alloc e =>
              obtain ⟨z, hz, e1⟩ := Option.map_val hop; cases e1; exact ⟨_, rfl⟩
            case box e y =>
              obtain ⟨z, hz, e1⟩ := Option.map_val hop; cases e1; exact ⟨_, rfl⟩
            case buildSlice t len parts =>
              split at hop
              · obtain ⟨z, hz, e1⟩ := Option.map_val hop
                obtain ⟨z, hh⟩ := z
                cases e1
                unfold buildSliceA at hz
                split at hz
                · split at hz
                  · split at hz
                    · obtain ⟨cs, hcs, e2⟩ := (by
                        rename_i n0 z0 _ _ _
                        cases hfa : fillA (fun i => some (i * n0, n0)) (zerosA z0 len) _ with
                        | none => rw [hfa] at hz; cases hz
                        | some cs => rw [hfa] at hz; simp only [Option.map_some, Option.some.injEq, Prod.mk.injEq] at hz; exact ⟨cs, trivial, hz.2⟩ : ∃ cs, True ∧ h.alloc (.cells false cs) = hh)
                      exact ⟨_, e2.symm⟩
                    · cases hz
                  · cases hz
                · cases hz
              · cases hop
            case makeMap t res =>
              cases res with
              | some q => cases hop
              | none => cases hop; exact ⟨_, rfl⟩
            case makeSlice t l c =>
              split at hop
              · obtain ⟨z, hz, e1⟩ := Option.map_val hop
                obtain ⟨z, hh⟩ := z
                cases e1
                unfold makeSliceA at hz
                split at hz
                · split at hz
                  · split at hz
                    · cases hz; exact ⟨_, rfl⟩
                    · cases hz
                  · cases hz
                · cases hz
              · cases hop
          obtain ⟨obj, rfl⟩ := hform
          exact .inr ⟨rfl, v, obj, rfl, rfl, hop⟩
    · cases hl

theorem Pairwise.snoc {α : Type} {R : α → α → Prop} {l : List α} {x : α} (h : l.Pairwise R) (hx : ∀ y ∈ l, R y x) : (l ++ [x]).Pairwise R := by
  rw [List.pairwise_append]
  exact ⟨h, by simp, fun y hy z hz => by simp at hz; subst hz; exact hx y hy⟩

variable {C : CallFn} {r : SRes} {ρ0 : Ren} {h0 : Heap} {ds : List Deferred} {done rest : List PItem} {U : List PRec} {pend : List (PRec × Bool)} {env : Env} {h : Heap} {ρ : Ren} {S : Array Bool} {a : Act} {w : World}

theorem Inv.advance {x : PItem} (I : Inv P G B w0 C n ops r ρ0 h0 ds done (x :: rest) U pend env h ρ S a w) (hx : x.kind ≠ .heavy) :
    ∃ p pend' env' h', Inv P G B w0 C n ops r ρ0 h0 ds (x :: done) rest (U ++ [p]) pend' env' h' ρ S a w := by
  have hst := I.stat
  simp only [planOk, Bool.and_eq_true] at hst
  obtain ⟨hitem, hst⟩ := hst
  obtain ⟨o, ho, hk, hmask, hseen⟩ := itemOk_out hitem
  obtain ⟨hanc, hpreds⟩ := maskOf_anc (fun y hy => (I.doneOk y hy).2) ho (fun e he => he) hmask
  have hrun := I.run
  simp only [runPi, ho] at hrun
  -- the step, whatever its kind
  have key : ∃ p env' h' pend', lightRec P G n ops x o env h = some (p, env', h') ∧ runPi P G C n ops rest pend' env' h' = some r ∧
      ((x.kind ≠ .alloc ∧ (pend' = pend ∨ pend' = pend ++ [(p, false)]) ∧ (x.kind = .read → pend' = pend ++ [(p, false)])) ∨ (x.kind = .alloc ∧ pend' = dirt pend ++ [(p, false)])) := by
    cases hkx : x.kind with
    | heavy => exact absurd hkx hx
    | pure =>
      rw [hkx] at hrun; simp only at hrun
      split at hrun
      · rename_i p e h' hl; exact ⟨p, e, h', pend, hl, hrun, .inl ⟨by simp, .inl rfl, by simp⟩⟩
      · cases hrun
    | read =>
      rw [hkx] at hrun; simp only at hrun
      split at hrun
      · rename_i p e h' hl; exact ⟨p, e, h', _, hl, hrun, .inl ⟨by simp, .inr rfl, fun _ => rfl⟩⟩
      · cases hrun
    | alloc =>
      rw [hkx] at hrun; simp only at hrun
      split at hrun
      · rename_i p e h' hl; exact ⟨p, e, h', _, hl, hrun, .inr ⟨rfl, rfl⟩⟩
      · cases hrun
  obtain ⟨p, env', h', pend', hl, hrun', hpend⟩ := key
  obtain ⟨hpx, hpo, hpe, hph, hph1, hput, hpok, hheap⟩ := lightRec_out ho hk hx hl
  obtain ⟨hg1, hg2⟩ := putA_get hput
  have hnext : h.next ≤ h'.next := by
    rcases hheap with ⟨rfl, _⟩ | ⟨_, v, obj, rfl, _⟩
    · exact Nat.le_refl _
    · simp
  have hR : Rel G B w0 ρ h' w := by
    rcases hheap with ⟨rfl, _⟩ | ⟨_, v, obj, rfl, _⟩
    · exact I.rel
    · exact I.rel.garbage obj
  have hinU : ∀ u ∈ U ++ [p], u ∈ U ∨ u = p := fun u hu => by simpa using hu
  have hdd : ∀ u ∈ U, ∀ d, o.dst = some d → u.o.dst ≠ some d := fun u hu d hd => by
    obtain ⟨hud, huok⟩ := I.uDone u hu
    obtain ⟨_, oy, hoy, _, hne⟩ := hseen u.x hud
    rw [huok.op] at hoy; cases hoy
    exact hne d hd
  refine ⟨p, pend', env', h', ?_⟩
  constructor
  case run => exact hrun'
  case stat => exact hst
  case doneOk =>
    intro y hy
    simp only [List.mem_cons] at hy
    rcases hy with rfl | hy
    · exact ⟨⟨o, ho, hk⟩, hanc⟩
    · exact I.doneOk y hy
  case cover =>
    intro i hi
    rcases I.cover i hi with ⟨y, hy, e⟩ | ⟨y, hy, e⟩
    · exact .inl ⟨y, by simp [hy], e⟩
    · simp only [List.mem_cons] at hy
      rcases hy with rfl | hy
      · exact .inl ⟨_, by simp, e⟩
      · exact .inr ⟨y, hy, e⟩
  case uDone =>
    intro u hu
    rcases hinU u hu with hu | rfl
    · exact ⟨by simp [(I.uDone u hu).1], (I.uDone u hu).2⟩
    · exact ⟨by simp [hpx], hpok⟩
  case size => exact I.size
  case listed =>
    intro i hi
    rw [I.listed i hi]
    constructor
    · rintro ⟨h1, h2⟩
      refine ⟨fun u hu => ?_, fun y hy => h2 y (by simp [hy])⟩
      rcases hinU u hu with hu | rfl
      · exact h1 u hu
      · rw [hpx]; exact h2 x (by simp)
    · rintro ⟨h1, h2⟩
      refine ⟨fun u hu => h1 u (by simp [hu]), fun y hy => ?_⟩
      simp only [List.mem_cons] at hy
      rcases hy with rfl | hy
      · have := h1 p (by simp); rwa [hpx] at this
      · exact h2 y hy
  case closed => exact I.closed
  case distinct =>
    refine Pairwise.snoc I.distinct fun u hu => ?_
    rw [hpx]
    exact (hseen u.x (I.uDone u hu).1).1
  case order =>
    refine Pairwise.snoc I.order fun u hu => ?_
    rw [hpx]
    exact I.noRest u hu x (by simp)
  case self =>
    intro u hu
    rcases hinU u hu with hu | rfl
    · exact I.self u hu
    · intro o' ho' e he hb hon
      rw [hpx] at ho'
      rw [ho] at ho'
      cases ho'
      obtain ⟨y, hy, hye⟩ := hpreds e he hb
      have := (hseen y hy).1
      rw [hpx] at hon
      omega
  case noRest =>
    intro u hu y hy
    rcases hinU u hu with hu | rfl
    · exact I.noRest u hu y (by simp [hy])
    · intro o' ho' e he hb hon
      rw [hpx] at ho'
      rw [ho] at ho'
      cases ho'
      obtain ⟨z, hz, hze⟩ := hpreds e he hb
      have := planOk_distinct hst y hy z (by simp [hz])
      omega
  case frSize => exact I.frSize
  case fr =>
    intro d v hd
    by_cases hdst : o.dst = some d
    · exact ⟨(hg1 d hdst).1, .inl ⟨p, by simp, by rw [hpo]; exact hdst⟩⟩
    · rw [hg2 d hdst] at hd
      obtain ⟨h1, h2⟩ := I.fr d v hd
      refine ⟨h1, h2.imp (fun ⟨u, hu, e⟩ => ⟨u, by simp [hu], e⟩) id⟩
  case pv =>
    intro u hu d hd
    rcases hinU u hu with hu | rfl
    · rw [hg2 d (fun e => hdd u hu d e hd)]
      exact I.pv u hu d hd
    · rw [hpo] at hd
      exact (hg1 d hd).2
  case opnd =>
    intro u hu0 d hd
    rcases hinU u hu0 with hu | rfl
    · rcases I.opnd u hu d hd with ⟨u', hu', h1, h2, h3⟩ | h1
      · exact .inl ⟨u', by simp [hu'], h1, h2, h3⟩
      · refine .inr ⟨fun u' hu' hne hd' => ?_, h1.2⟩
        rcases hinU u' hu' with hu' | rfl
        · exact h1.1 u' hu' hne hd'
        · obtain ⟨hud, huok⟩ := I.uDone u hu
          obtain ⟨_, oy, hoy, hc, _⟩ := hseen u.x hud
          rw [huok.op] at hoy; cases hoy
          rw [hpx]
          refine hc (.inr ?_)
          rw [hpo] at hd'
          simp only [conflictA, hd', Bool.or_eq_true]
          exact .inr (by simpa using hd)
    · rw [hpo] at hd
      by_cases hex : ∃ u' ∈ U, u'.o.dst = some d
      · obtain ⟨u', hu', hd'⟩ := hex
        refine .inl ⟨u', by simp [hu'], hd', ?_, ?_⟩
        · obtain ⟨hud, huok⟩ := I.uDone u' hu'
          obtain ⟨_, oy, hoy, hc, _⟩ := hseen u'.x hud
          rw [huok.op] at hoy; cases hoy
          rw [hpx]
          refine hc (.inr ?_)
          simp only [conflictA, hd', Bool.or_eq_true]
          exact .inl (by simpa using hd)
        · rw [hpe]; exact I.pv u' hu' d hd'
      · refine .inr ⟨fun u' hu' hne hd' => ?_, fun v hv => ?_⟩
        · rcases hinU u' hu' with hu' | rfl
          · exact absurd ⟨u', hu', hd'⟩ hex
          · exact absurd rfl hne
        rw [hpe] at hv
        obtain ⟨h1, h2⟩ := I.fr d v hv
        exact ⟨h1, h2.resolve_left fun ⟨u', hu', hd'⟩ => hex ⟨u', hu', hd'⟩⟩
  case uniq =>
    intro u hu0 u' hu0' hne d hd hd'
    rcases hinU u hu0 with hu | rfl
    · rcases hinU u' hu0' with hu' | rfl
      · exact I.uniq u hu u' hu' hne d hd hd'
      · rw [hpo] at hd'
        exact hdd u hu d hd' hd
    · rcases hinU u' hu0' with hu' | rfl
      · rw [hpo] at hd
        exact hdd u' hu' d hd hd'
      · exact hne rfl
  case plt =>
    intro u hu e he hb
    rcases hinU u hu with hu | rfl
    · exact I.plt u hu e he hb
    · rw [hpo] at he
      obtain ⟨y, hy, hye⟩ := hpreds e he hb
      obtain ⟨⟨oy, hoy, _⟩, _⟩ := I.doneOk y hy
      rw [← hye]
      exact (Array.getElem?_eq_some_iff.1 hoy).1
  case rel => exact hR
  case inPend =>
    intro u hu hkk
    rcases hinU u hu with hu | rfl
    · obtain ⟨b, hb⟩ := I.inPend u hu hkk
      rcases hpend with ⟨_, hp, _⟩ | ⟨_, rfl⟩
      · rcases hp with rfl | rfl
        · exact ⟨b, hb⟩
        · exact ⟨b, by simp [hb]⟩
      · exact ⟨true, by simp only [dirt, List.mem_append, List.mem_map]; exact .inl ⟨_, hb, rfl⟩⟩
    · rw [hpx] at hkk
      rcases hpend with ⟨hna, _, hread⟩ | ⟨_, rfl⟩
      · rcases hkk with hkk | hkk
        · rw [hread hkk]; exact ⟨false, by simp⟩
        · exact absurd hkk hna
      · exact ⟨false, by simp⟩
  case clean =>
    intro q hq hf
    rcases hpend with ⟨hna, hp, _⟩ | ⟨_, rfl⟩
    · have hsame : h' = h := by
        rcases hheap with ⟨e, _⟩ | ⟨e, _⟩
        · exact e
        · exact absurd e hna
      have : q ∈ pend ∨ q = (p, false) := by
        rcases hp with rfl | rfl
        · exact .inl hq
        · simpa using hq
      rcases this with hq | rfl
      · rw [hsame]; exact I.clean q hq hf
      · exact hph1.symm
    · simp only [dirt, List.mem_append, List.mem_map, List.mem_singleton] at hq
      rcases hq with ⟨q', _, rfl⟩ | rfl
      · cases hf
      · exact hph1.symm
  case pOk =>
    intro q hq
    have : (∃ q' ∈ pend, q.1 = q'.1) ∨ q.1 = p := by
      rcases hpend with ⟨_, hp, _⟩ | ⟨_, rfl⟩
      · rcases hp with rfl | rfl
        · exact .inl ⟨q, hq, rfl⟩
        · simp only [List.mem_append, List.mem_singleton] at hq
          rcases hq with hq | rfl
          · exact .inl ⟨q, hq, rfl⟩
          · exact .inr rfl
      · simp only [dirt, List.mem_append, List.mem_map, List.mem_singleton] at hq
        rcases hq with ⟨q', hq', rfl⟩ | rfl
        · exact .inl ⟨q', hq', rfl⟩
        · exact .inr rfl
    rcases this with ⟨q', hq', e⟩ | e
    · rw [e]; exact I.pOk q' hq'
    · rw [e]; exact hpok
  case made =>
    intro u hu hka hw
    rcases hinU u hu with hu | rfl
    · obtain ⟨h1, h2⟩ := I.made u hu hka hw
      exact ⟨by omega, h2⟩
    · have h0n := I.ext.1
      rw [hpx] at hka
      rcases hheap with ⟨_, e⟩ | ⟨_, v, obj, e, _, _⟩
      · rw [e hka] at hw; cases hw
      · rw [hph, e]
        refine ⟨by simp, ?_, h0n⟩
        cases hq : ρ h.next with
        | none => rfl
        | some q => have := (I.rel.dom _ _ _ _ hq).1; omega
  case apart =>
    refine Pairwise.snoc I.apart fun u hu hka hw _ _ => ?_
    have := (I.made u hu hka hw).1
    rw [hph]; omega
  case ext => exact ⟨Nat.le_trans I.ext.1 hnext, I.ext.2⟩
  case defers => exact I.defers

/-- On to the next heavy operation, or the end. -/
theorem Inv.bound : ∀ (rest : List PItem) {done : List PItem} {U : List PRec} {pend : List (PRec × Bool)} {env : Env} {h : Heap}, Inv P G B w0 C n ops r ρ0 h0 ds done rest U pend env h ρ S a w →
    ∃ done' rest' U' pend' env' h', atBound rest' ∧ U'.length + rest'.length = U.length + rest.length ∧ Inv P G B w0 C n ops r ρ0 h0 ds done' rest' U' pend' env' h' ρ S a w
  | [], done, U, pend, env, h, I => ⟨done, [], U, pend, env, h, trivial, rfl, I⟩
  | x :: rest, done, U, pend, env, h, I => by
    by_cases hx : x.kind = .heavy
    · exact ⟨done, x :: rest, U, pend, env, h, hx, rfl, I⟩
    · obtain ⟨p, pend', env', h', I'⟩ := I.advance hx
      obtain ⟨d, r', U', pe, e, hh, hb, hlen, I2⟩ := Inv.bound rest I'
      exact ⟨d, r', U', pe, e, hh, hb, by rw [hlen]; simp; omega, I2⟩


theorem looks_operand {o : Oper} {t : Tmp} (h : Operand.tmp t ∈ o.op.operands) : t ∈ o.looksAt ops := by
  simp only [Oper.looksAt, List.mem_append, List.mem_filterMap]
  exact .inl ⟨.tmp t, by simpa using h, rfl⟩

theorem wantedA_congr {env env' : Env} {o : Oper} (he : ∀ d ∈ o.looksAt ops, env d = env' d) : wantedA ops env o = wantedA ops env' o := by
  unfold wantedA
  cases hg : o.guard with
  | none => rfl
  | some jw =>
    obtain ⟨j, want⟩ := jw
    simp only
    cases hd : (ops[j]?).bind (·.dst) with
    | none => rfl
    | some d =>
      have : d ∈ o.looksAt ops := by
        simp only [Oper.looksAt, List.mem_append]
        right
        simp [hg, hd]
      simp only [he d this]

theorem opA_agree {env env' : Env} {o : Oper} {h : Heap} (he : ∀ d ∈ o.looksAt ops, env d = env' d) : opA P G env o h = opA P G env' o h := by
  refine opA_congr fun x hx => ?_
  cases x with
  | tmp t => exact he t (looks_operand hx)
  | _ => rfl

/-- One operation asks of its operands alone. -/
theorem stepA_agree {C : CallFn} {env env' : Env} {o : Oper} {h : Heap} (he : ∀ d ∈ o.looksAt ops, env d = env' d) {r : SRes} (hs : stepA P G C n ops o env h = some r) :
    (∃ v e h', r = .ok e h' ∧ putA n o.dst v env = some e ∧ ∃ e', putA n o.dst v env' = some e' ∧ stepA P G C n ops o env' h = some (.ok e' h')) ∨
    (∃ ch h', r = .panic ch h' ∧ stepA P G C n ops o env' h = some (.panic ch h')) := by
  have hput : ∀ {v : Value} {e : Env}, putA n o.dst v env = some e → ∃ e', putA n o.dst v env' = some e' := by
    intro v e hp
    unfold putA at hp ⊢
    cases hd : o.dst with
    | none => exact ⟨_, rfl⟩
    | some d =>
      rw [hd] at hp
      simp only at hp ⊢
      split at hp
      · rename_i h; rw [if_pos h]; exact ⟨_, rfl⟩
      · cases hp
  unfold stepA at hs ⊢
  rw [← wantedA_congr he, ← opA_agree he]
  split at hs
  · cases hs
  · rename_i hw
    cases hp : putA n o.dst undef env with
    | none => simp [hp] at hs
    | some e =>
      simp [hp] at hs; subst hs
      obtain ⟨e', he'⟩ := hput hp
      exact .inl ⟨undef, e, h, rfl, hp, e', he', by simp [he']⟩
  · rename_i hw
    split at hs
    · cases hs
    · rename_i v h' ho
      cases hp : putA n o.dst v env with
      | none => simp [hp] at hs
      | some e =>
        simp [hp] at hs; subst hs
        obtain ⟨e', he'⟩ := hput hp
        exact .inl ⟨v, e, h', rfl, hp, e', he', by simp [he']⟩
    · rename_i h' ho
      cases hp : putA n o.dst undef env with
      | none => simp [hp] at hs
      | some e =>
        simp [hp] at hs; subst hs
        obtain ⟨e', he'⟩ := hput hp
        exact .inl ⟨undef, e, h', rfl, hp, e', he', by simp [he']⟩
    · rename_i f args ho
      split at hs
      · cases hs
      · rename_i v h' hc
        cases hp : putA n o.dst v env with
        | none => simp [hp] at hs
        | some e =>
          simp [hp] at hs; subst hs
          obtain ⟨e', he'⟩ := hput hp
          exact .inl ⟨v, e, h', rfl, hp, e', he', by simp [he']⟩
      · rename_i ch h' hc
        cases hs
        exact .inr ⟨ch, h', rfl, by simp⟩
    · rename_i v ho
      cases hs
      exact .inr ⟨_, h, rfl, by simp⟩

theorem planOk_anc : ∀ {rest seen : List PItem}, planOk P ops seen rest = true → (∀ y ∈ seen, ∀ j, y.bef.testBit j = true → Anc ops y.i j) → ∀ y ∈ rest, ∀ j, y.bef.testBit j = true → Anc ops y.i j
  | [], _, _, _, y, hy => by simp at hy
  | x :: rest, seen, hp, hs, y, hy => by
    simp only [planOk, Bool.and_eq_true] at hp
    obtain ⟨o, ho, _, hm, _⟩ := itemOk_out hp.1
    have hx := (maskOf_anc hs ho (fun e he => he) hm).1
    simp only [List.mem_cons] at hy
    rcases hy with rfl | hy
    · exact hx
    · refine planOk_anc hp.2 (fun z hz => ?_) y hy
      simp only [List.mem_cons] at hz
      rcases hz with rfl | hz
      · exact hx
      · exact hs z hz

theorem planOk_heavy : ∀ {rest seen : List PItem}, planOk P ops seen rest = true → ∀ x ∈ seen, x.kind = .heavy → ∀ y ∈ rest, y.bef.testBit x.i = true
  | [], _, _, x, _, _, y, hy => by simp at hy
  | z :: rest, seen, hp, x, hx, hk, y, hy => by
    simp only [planOk, Bool.and_eq_true] at hp
    simp only [List.mem_cons] at hy
    rcases hy with rfl | hy
    · obtain ⟨o, _, _, _, h⟩ := itemOk_out hp.1
      obtain ⟨_, oy, _, hc, _⟩ := h x hx
      exact hc (.inl hk)
    · exact planOk_heavy hp.2 x (by simp [hx]) hk y hy

theorem setIfInBounds_getD {S : Array Bool} {i j : Nat} {b : Bool} (hi : i < S.size) : (S.setIfInBounds i true).getD j b = if j = i then true else S.getD j b := by
  rw [Array.getD_eq_getD_getElem?, Array.getD_eq_getD_getElem?]
  by_cases e : j = i
  · subst e
    rw [Array.getElem?_setIfInBounds_self_of_lt hi]; simp
  · rw [Array.getElem?_setIfInBounds_ne (fun k => e k.symm), if_neg e]


variable {Q : Exit → Act → World → Prop}

/-- What the region owes behind it. -/
structure Owed (G B : Nat) (w0 : World) (n : Nat) (r : SRes) (ρ0 : Ren) (h0 : Heap) (ds : List Deferred) (Q : Exit → Act → World → Prop) : Prop where
  ok : ∀ env' h', r = .ok env' h' → ∀ ρ' a' w', Ext ρ0 h0 ρ' h' → Rel G B w0 ρ' h' w' → FrameRel ρ' n env' a' → a'.defers = ds → Q .normal a' w'
  panic : ∀ ch h', r = .panic ch h' → ∀ ρ' ch' a' w', Ext ρ0 h0 ρ' h' → Rel G B w0 ρ' h' w' → ChRel ρ' ch ch' → a'.defers = ds → Q (.panic ch') a' w'

theorem mem_ready {i : Nat} : i ∈ Region.ready .any ops S ↔ i < ops.size ∧ S.getD i true = false ∧ ∃ o, ops[i]? = some o ∧ ∀ e ∈ o.after.toList, Region.binds .any e = true → S.getD e.on false = true := by
  unfold Region.ready
  simp only [List.mem_filter, List.mem_range, Bool.and_eq_true, Bool.not_eq_true']
  constructor
  · rintro ⟨h1, h2, h3⟩
    refine ⟨h1, h2, ops[i], Array.getElem?_eq_getElem h1, fun e he hb => ?_⟩
    rw [Array.getElem?_eq_getElem h1] at h3
    simp only [Option.map_some, Option.getD_some] at h3
    rw [← Array.all_toList, List.all_eq_true] at h3
    have := h3 e he
    rw [hb] at this
    simpa using this
  · rintro ⟨h1, h2, o, ho, h3⟩
    refine ⟨h1, h2, ?_⟩
    rw [ho]
    simp only [Option.map_some, Option.getD_some]
    rw [← Array.all_toList, List.all_eq_true]
    intro e he
    cases hb : Region.binds .any e with
    | false => rfl
    | true => simp [h3 e he hb]

theorem Inv.notListed (I : Inv P G B w0 C n ops r ρ0 h0 ds done rest U pend env h ρ S a w) {i : Nat} (hi : i < ops.size) (hl : S.getD i true = false) : (∃ u ∈ U, u.x.i = i) ∨ ∃ y ∈ rest, y.i = i := by
  by_cases h1 : ∃ u ∈ U, u.x.i = i
  · exact .inl h1
  · by_cases h2 : ∃ y ∈ rest, y.i = i
    · exact .inr h2
    · have := (I.listed i hi).2 ⟨fun u hu e => h1 ⟨u, hu, e⟩, fun y hy e => h2 ⟨y, hy, e⟩⟩
      rw [hl] at this; cases this

theorem Inv.pending (I : Inv P G B w0 C n ops r ρ0 h0 ds done rest U pend env h ρ S a w) {u : PRec} (hu : u ∈ U) : S.getD u.x.i false = false ∧ S.getD u.x.i true = false ∧ u.x.i < ops.size := by
  have hi : u.x.i < ops.size := (Array.getElem?_eq_some_iff.1 (I.uDone u hu).2.op).1
  have hf : S.getD u.x.i true = false := by
    cases hq : S.getD u.x.i true with
    | false => rfl
    | true => exact absurd rfl (((I.listed _ hi).1 hq).1 u hu)
  refine ⟨?_, hf, hi⟩
  cases hq : S.getD u.x.i false with
  | false => rfl
  | true => rw [(getD_true_of_false hq).1] at hf; cases hf

theorem Inv.pendingRest (I : Inv P G B w0 C n ops r ρ0 h0 ds done rest U pend env h ρ S a w) {y : PItem} (hy : y ∈ rest) (hi : y.i < ops.size) : S.getD y.i false = false := by
  cases hq : S.getD y.i false with
  | false => rfl
  | true => exact absurd rfl (((I.listed _ hi).1 (getD_true_of_false hq).1).2 y hy)

/-- Something may come next, if anything is left. -/
theorem Inv.ready (I : Inv P G B w0 C n ops r ρ0 h0 ds done rest U pend env h ρ S a w) (hr : Region.ready .any ops S = []) : U = [] ∧ rest = [] := by
  cases U with
  | cons u U2 =>
    exfalso
    have hu : u ∈ u :: U2 := by simp
    obtain ⟨_, h1, h2⟩ := I.pending hu
    have : u.x.i ∈ Region.ready .any ops S := by
      refine mem_ready.2 ⟨h2, h1, u.o, (I.uDone u hu).2.op, fun e he hb => ?_⟩
      have hlt := I.plt u hu e he hb
      have hl := (I.listed e.on hlt).2 ⟨fun u' hu' e' => ?_, fun y hy e' => ?_⟩
      · rw [Array.getD_eq_getD_getElem?] at hl ⊢
        rw [Array.getElem?_eq_getElem (by rw [I.size]; exact hlt)] at hl ⊢
        exact hl
      · simp only [List.mem_cons] at hu'
        rcases hu' with rfl | hu'
        · exact I.self u' hu u'.o (I.uDone u' hu).2.op e he hb e'.symm
        · exact (List.pairwise_cons.1 I.order).1 u' hu' u.o (I.uDone u hu).2.op e he hb e'.symm
      · exact I.noRest u hu y hy u.o (I.uDone u hu).2.op e he hb e'.symm
    rw [hr] at this; cases this
  | nil =>
    cases rest with
    | nil => exact ⟨rfl, rfl⟩
    | cons x rest =>
      exfalso
      have hst := I.stat
      simp only [planOk, Bool.and_eq_true] at hst
      obtain ⟨o, ho, _, hm, hseen⟩ := itemOk_out hst.1
      obtain ⟨_, hpreds⟩ := maskOf_anc (fun y hy => (I.doneOk y hy).2) ho (fun e he => he) hm
      have hi : x.i < ops.size := (Array.getElem?_eq_some_iff.1 ho).1
      have h1 : S.getD x.i true = false := by
        cases hq : S.getD x.i true with
        | false => rfl
        | true => exact absurd rfl (((I.listed _ hi).1 hq).2 x (by simp))
      have : x.i ∈ Region.ready .any ops S := by
        refine mem_ready.2 ⟨hi, h1, o, ho, fun e he hb => ?_⟩
        obtain ⟨y, hy, hye⟩ := hpreds e he hb
        obtain ⟨⟨oy, hoy, _⟩, _⟩ := I.doneOk y hy
        have hlt : e.on < ops.size := by rw [← hye]; exact (Array.getElem?_eq_some_iff.1 hoy).1
        have hl := (I.listed e.on hlt).2 ⟨fun u' hu' => by simp at hu', fun z hz e' => planOk_distinct I.stat z hz y hy (by omega)⟩
        rw [Array.getD_eq_getD_getElem?] at hl ⊢
        rw [Array.getElem?_eq_getElem (by rw [I.size]; exact hlt)] at hl ⊢
        exact hl
      rw [hr] at this; cases this

end
end Go.Am
