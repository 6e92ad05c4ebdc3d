/-
  The abstract machine, part 16: every order of a region comes to what the plan's order comes to.
-/
import Derived.Test.YtfooolbjhhfbiaaDoorZamDraw2
namespace Go.Am
open Go.RowKit (Below)

section
variable {G B : Nat} {w0 : World} {P : Program} {n : Nat} {ops : Array Oper} {C : CallFn} {r : SRes} {ρ0 : Ren} {h0 : Heap} {ds : List Deferred} {done rest : List PItem} {U : List PRec} {pend : List (PRec × Bool)} {env : Env} {h : Heap} {ρ : Ren} {S : Array Bool} {a : Act} {w : World} {Q : Exit → Act → World → Prop}

theorem Inv.stable (I : Inv P G B w0 C n ops r ρ0 h0 ds done rest U pend env h ρ S a w) (hb : atBound rest) {u : PRec} (hu : u ∈ U) : u.Stable P G h := by
  intro hw
  have hok := (I.uDone u hu).2
  cases hk : u.x.kind with
  | pure => trivial
  | heavy => trivial
  | read =>
    simp only
    obtain ⟨b, hp⟩ := I.inPend u hu (.inl hk)
    cases b with
    | true =>
      have := clear_of hb I.run _ hp rfl hw
      simp only [hk] at this
      exact this
    | false =>
      have hc := I.clean _ hp rfl
      simp only at hc
      have hrun := hok.run hw
      obtain ⟨v, e⟩ := opA_read (hok.kind.trans hk) hrun
      injection e with e1 e2
      rw [hc, e2]
      rw [e2] at hrun
      exact hrun
  | alloc =>
    simp only
    obtain ⟨b, hp⟩ := I.inPend u hu (.inr hk)
    cases b with
    | true =>
      have := clear_of hb I.run _ hp rfl hw
      simp only [hk] at this
      exact this
    | false => rw [I.clean _ hp rfl]


/-- A pending operation is run. -/
theorem Inv.light {Ub Ua : List PRec} {u : PRec} (I : Inv P G B w0 C n ops r ρ0 h0 ds done rest (Ub ++ u :: Ua) pend env h ρ S a w) (hb : atBound rest) (hp : PredsIn ops S u.x.i)
    {K : Act → World → Prop}
    (hK : ∀ (ρ' : Ren) (a' : Act) (w' : World), Inv P G B w0 C n ops r ρ0 h0 ds done rest (Ub ++ Ua) pend env h ρ' (S.setIfInBounds u.x.i true) a' w' → K a' w') :
    wpOp P ops Q u.x.i K a w := by
  have hu : u ∈ Ub ++ u :: Ua := by simp
  obtain ⟨hud, hok⟩ := I.uDone u hu
  obtain ⟨hpf, hpt, hlt⟩ := I.pending hu
  have hsub : ∀ u' ∈ Ub ++ Ua, u' ∈ Ub ++ u :: Ua := fun u' hu' => by
    simp only [List.mem_append, List.mem_cons] at hu' ⊢
    rcases hu' with h | h
    · exact .inl h
    · exact .inr (.inr h)
  have hsplit : ∀ u' ∈ Ub ++ u :: Ua, u' = u ∨ u' ∈ Ub ++ Ua := fun u' hu' => by
    simp only [List.mem_append, List.mem_cons] at hu' ⊢
    rcases hu' with h | h | h
    · exact .inr (.inl h)
    · exact .inl h
    · exact .inr (.inr h)
  have hsl : List.Sublist (Ub ++ Ua) (Ub ++ u :: Ua) := List.Sublist.append (List.Sublist.refl _) (List.sublist_cons_self u Ua)
  have hne : ∀ u' ∈ Ub ++ Ua, u'.x.i ≠ u.x.i := by
    intro u' hu' e
    have hd := I.distinct
    rw [List.pairwise_append] at hd
    simp only [List.mem_append] at hu'
    rcases hu' with h | h
    · exact hd.2.2 u' h u (by simp) e
    · exact (List.pairwise_cons.1 hd.2.1).1 u' h e.symm
  have hnr : ∀ y ∈ rest, y.i ≠ u.x.i := fun y hy => (planOk_distinct I.stat y hy u.x hud).symm
  have hanc : ∀ j, u.x.bef.testBit j = true → S.getD j false = true := fun j hj => ((I.doneOk u.x hud).2 j hj).listed I.closed hp
  -- what the operation looks at is as it was
  let envR : Env := fun t => if t ∈ u.o.looksAt ops then u.env t else none
  have hagree : ∀ d ∈ u.o.looksAt ops, u.env d = envR d := fun d hd => by simp only [envR]; rw [if_pos hd]
  have FR : FrameRel ρ n envR a := by
    refine ⟨I.frSize, fun t v ht => ?_, fun t v ht => ?_⟩
    all_goals
      simp only [envR] at ht
      split at ht
      · rename_i hl
        rcases I.opnd u hu t hl with ⟨u', hu', _, hbit, _⟩ | ⟨_, h2⟩
        · have := hanc _ hbit
          rw [(I.pending hu').1] at this; cases this
        · first | exact (h2 v ht).1 | exact (h2 v ht).2
      · cases ht
  -- behind it
  have after : ∀ (ρ' : Ren) (v' : Value) (w' : World), VRel ρ' u.v v' → ρ.le ρ' → Rel G B w0 ρ' h w' → Ext ρ0 h0 ρ' h → (∀ u' ∈ Ub ++ Ua, u'.x.kind = .alloc → u'.w = true → ρ' u'.h.next = none) → K (a.put u.o.dst v') w' := by
    intro ρ' v' w' hv hle hR hext hmade
    refine hK ρ' _ w' ?_
    have hget : ∀ d, u.o.dst = some d → (a.put u.o.dst v').tmps.getD d undef = v' := fun d hd => by
      rw [hd]
      simp only [Act.put]
      rw [Array.getD_eq_getD_getElem?, Array.getElem?_setIfInBounds_self_of_lt (by rw [I.frSize]; exact hok.lt d hd)]; rfl
    have hget2 : ∀ d, u.o.dst ≠ some d → (a.put u.o.dst v').tmps.getD d undef = a.tmps.getD d undef := fun d hd => by
      cases hq : u.o.dst with
      | none => rfl
      | some d0 =>
        simp only [Act.put]
        rw [Array.getD_eq_getD_getElem?, Array.getD_eq_getD_getElem?, Array.getElem?_setIfInBounds_ne (fun e => hd (by rw [hq, e]))]
    constructor
    case run => exact I.run
    case stat => exact I.stat
    case doneOk => exact I.doneOk
    case cover => exact I.cover
    case uDone => exact fun u' hu' => I.uDone u' (hsub u' hu')
    case size => rw [Array.size_setIfInBounds]; exact I.size
    case listed =>
      intro i hi
      rw [setIfInBounds_getD (by rw [I.size]; exact hlt)]
      by_cases e : i = u.x.i
      · subst e
        simp only [if_true, true_iff]
        exact ⟨hne, hnr⟩
      · rw [if_neg e, I.listed i hi]
        constructor
        · rintro ⟨h1, h2⟩; exact ⟨fun u' hu' => h1 u' (hsub u' hu'), h2⟩
        · rintro ⟨h1, h2⟩
          refine ⟨fun u' hu' => ?_, h2⟩
          rcases hsplit u' hu' with rfl | hu'
          · exact fun k => e k.symm
          · exact h1 u' hu'
    case closed =>
      intro i o ho hi e he hbd
      rw [setIfInBounds_getD (by rw [I.size]; exact hlt)] at hi ⊢
      split
      · rfl
      · by_cases e1 : i = u.x.i
        · subst e1; exact hp o ho e he hbd
        · rw [if_neg e1] at hi; exact I.closed i o ho hi e he hbd
    case distinct => exact I.distinct.sublist hsl
    case order => exact I.order.sublist hsl
    case self => exact fun u' hu' => I.self u' (hsub u' hu')
    case noRest => exact fun u' hu' => I.noRest u' (hsub u' hu')
    case frSize => cases hq : u.o.dst <;> simp [Act.put, I.frSize]
    case fr =>
      intro d v hd
      obtain ⟨h1, h2⟩ := I.fr d v hd
      refine ⟨h1, ?_⟩
      by_cases e : u.o.dst = some d
      · have := I.pv u hu d e
        rw [hd] at this; cases this
        rw [hget d e]
        exact .inr hv
      · rw [hget2 d e]
        rcases h2 with ⟨u', hu', e'⟩ | h2
        · rcases hsplit u' hu' with rfl | hu'
          · exact absurd e' e
          · exact .inl ⟨u', hu', e'⟩
        · exact .inr (h2.mono hle)
    case pv => exact fun u' hu' => I.pv u' (hsub u' hu')
    case opnd =>
      intro u2 hu2 d hd
      by_cases e : u.o.dst = some d
      · rcases I.opnd u2 (hsub u2 hu2) d hd with ⟨u', hu', h1, h2, h3⟩ | ⟨h1, _⟩
        · rcases hsplit u' hu' with rfl | hu'
          · refine .inr ⟨fun u3 hu3 _ hd3 => ?_, fun v hv2 => ?_⟩
            · -- two that write one place: there are none
              exact absurd hd3 (I.uniq _ hu u3 (hsub u3 hu3) (hne u3 hu3) d e)
            · rw [h3] at hv2; cases hv2
              exact ⟨hok.lt d e, by rw [hget d e]; exact hv⟩
          · exact absurd h1 (I.uniq u hu u' (hsub u' hu') (hne u' hu') d e)
        · have hbit := h1 u hu (fun k => hne u2 hu2 k.symm) e
          have := hanc _ hbit
          rw [(I.pending (hsub u2 hu2)).1] at this; cases this
      · rw [hget2 d e]
        rcases I.opnd u2 (hsub u2 hu2) d hd with ⟨u', hu', h1, h2, h3⟩ | ⟨h1, h2⟩
        · rcases hsplit u' hu' with rfl | hu'
          · exact absurd h1 e
          · exact .inl ⟨u', hu', h1, h2, h3⟩
        · exact .inr ⟨fun u' hu' => h1 u' (hsub u' hu'), fun v hv2 => ⟨(h2 v hv2).1, (h2 v hv2).2.mono hle⟩⟩
    case uniq => exact fun u2 hu2 u3 hu3 => I.uniq u2 (hsub u2 hu2) u3 (hsub u3 hu3)
    case plt => exact fun u' hu' => I.plt u' (hsub u' hu')
    case rel => exact hR
    case inPend => exact fun u' hu' => I.inPend u' (hsub u' hu')
    case clean => exact I.clean
    case pOk => exact I.pOk
    case made => exact fun u' hu' hk hw => ⟨(I.made u' (hsub u' hu') hk hw).1, hmade u' hu' hk hw, (I.made u' (hsub u' hu') hk hw).2.2⟩
    case apart => exact I.apart.sublist hsl
    case ext => exact hext
    case defers => rw [put_defers]; exact I.defers
  have hext0 : Ext ρ0 h0 ρ h := I.ext
  have hmade0 : ∀ u' ∈ Ub ++ Ua, u'.x.kind = .alloc → u'.w = true → u'.h.next < h.next ∧ ρ u'.h.next = none := fun u' hu' hk hw => ⟨(I.made u' (hsub u' hu') hk hw).1, (I.made u' (hsub u' hu') hk hw).2.1⟩
  have hwant : Region.wanted u.o (yielded ops a.tmps) = u.w := wantedA_sound FR (by rw [← wantedA_congr hagree]; exact hok.want)
  unfold wpOp
  rw [hok.op]
  simp only
  rw [hwant]
  cases hw : u.w with
  | false =>
    simp only [Bool.false_eq_true, if_false]
    obtain ⟨e1, _⟩ := hok.skip hw
    have : VRel ρ u.v undef := by rw [e1]; exact VRel.tuple_iff.2 (.nil _)
    exact after ρ undef w this (Ren.le.refl _) I.rel hext0 fun u' hu' hk hw => (hmade0 u' hu' hk hw).2
  | true =>
    simp only [if_true]
    left
    have hrun := hok.run hw
    have hst := I.stable hb hu hw
    -- an operation that leaves the heap
    have plain : opA P G u.env u.o h = some (.val u.v h) → u.o.wp P a w K Q := by
      intro hop
      rw [opA_agree hagree] at hop
      obtain ⟨v', w', ρ', hr, hext, hR, hv⟩ := opA_sound I.rel FR.rel hop
      unfold Oper.wp
      rw [hr]
      exact after ρ' v' w' hv (hext.le I.rel) hR (hext0.trans hext) fun u' hu' hk hw => by
        obtain ⟨h1, h2⟩ := hmade0 u' hu' hk hw
        rw [hext.2 _ h1]; exact h2
    cases hk : u.x.kind with
    | heavy => exact absurd hk hok.light
    | pure =>
      obtain ⟨v, e, hall⟩ := opA_pure (hok.kind.trans hk) hrun
      injection e with e1 e2
      subst e1
      exact plain (hall h)
    | read => simp only [hk] at hst; exact plain hst
    | alloc =>
      simp only [hk] at hst
      have hrunR := hrun
      rw [opA_agree hagree] at hrunR
      obtain ⟨v, obj, e, hm⟩ := opA_alloc I.rel FR.rel (hok.kind.trans hk) hrunR
      injection e with e1 e2
      subst e1
      obtain ⟨hidlt, hidn, hid0⟩ := I.made u hu hk hw
      have hobj : h.obj u.h.next = some obj := by rw [hst, e2, Heap.alloc_obj, if_pos rfl]
      have hids : ∀ u' ∈ Ub ++ Ua, u'.x.kind = .alloc → u'.w = true → u'.h.next ≠ u.h.next := by
        intro u' hu' hk' hw' e
        have hd := I.apart
        rw [List.pairwise_append] at hd
        simp only [List.mem_append] at hu'
        rcases hu' with h1 | h1
        · exact hd.2.2 u' h1 u (by simp) hk' hw' hk hw e
        · exact (List.pairwise_cons.1 hd.2.1).1 u' h1 hk hw hk' hw' e.symm
      have hfin : ∀ (ob : Obj) (N : Nat) (v' : Value), Holds (ρ.upd u.h.next (w.heap.size, 0, N)) B (w.alloc ob) w.heap.size 0 N obj → VRel (ρ.upd u.h.next (w.heap.size, 0, N)) u.v v' → K (a.put u.o.dst v') (w.alloc ob) := by
        intro ob N v' hh hv
        have hbel : Below w.heap.size w (w.alloc ob) := (Below.refl _ _).alloc (Nat.le_refl _) _
        have hR := I.rel.materialize hidlt hidn hobj hbel (by simp) rfl hh
        refine after _ v' _ hv ?_ hR ⟨hext0.1, fun i hi => ?_⟩ fun u' hu' hk' hw' => ?_
        · intro i y hy
          unfold Ren.upd
          split
          · rename_i e; subst e; rw [hidn] at hy; cases hy
          · exact hy
        · unfold Ren.upd
          rw [if_neg (by omega)]
          exact hext0.2 i hi
        · unfold Ren.upd
          rw [if_neg (hids u' hu' hk' hw')]
          exact (hmade0 u' hu' hk' hw').2
      have hle : ∀ x, ρ.le (ρ.upd u.h.next x) := fun x i y hy => by
        unfold Ren.upd
        split
        · rename_i e; subst e; rw [hidn] at hy; cases hy
        · exact hy
      unfold Oper.wp
      rcases hm with ⟨cs, cs', t, rfl, hl, mk, hrun', hmk⟩ | ⟨rfl, hrun', hv⟩
      · rw [hrun' w]
        refine hfin (.cells cs' t) cs'.size _ ⟨by have := hl.1; simp at this; omega, fun m x hx => ?_, fun _ => ⟨I.rel.size, fun m hm => ⟨?_, ?_⟩⟩⟩ (hmk _ _ (hle _) (by simp [Ren.upd]))
        · obtain ⟨x', h1, h2⟩ := hl.get hx
          refine ⟨x', ?_, h2.mono (hle _)⟩
          have hn := heap_alloc_new w (.cells cs' t)
          simp only [World.cell?, hn, Nat.zero_add]
          simpa using h1
        · have hn := heap_alloc_new w (.cells cs' t)
          simp only [World.cell?, hn, Nat.zero_add]
          simp [hm]
        · have hn := heap_alloc_new w (.cells cs' t)
          simp only [World.frozen?, hn]
          simp
      · rw [hrun' w]
        refine hfin (.map #[] 0) 0 _ ⟨I.rel.size, #[], 0, heap_alloc_new w _, .nil _, .nil _⟩ ?_
        rw [hv]
        exact .map (by simp [Ren.upd]; exact ⟨rfl, rfl⟩)


/-- The heavy operation that stands next is run. -/
theorem Inv.heavy (SC : SoundC P G B w0 C) {x : PItem} (I : Inv P G B w0 C n ops r ρ0 h0 ds done (x :: rest) U pend env h ρ S a w) (hx : x.kind = .heavy) (hp : PredsIn ops S x.i)
    (O : Owed G B w0 n r ρ0 h0 ds Q) {K : Act → World → Prop}
    (hK : ∀ (pend' : List (PRec × Bool)) (env' : Env) (h' : Heap) (ρ' : Ren) (a' : Act) (w' : World), Inv P G B w0 C n ops r ρ0 h0 ds (x :: done) rest U pend' env' h' ρ' (S.setIfInBounds x.i true) a' w' → K a' w') :
    wpOp P ops Q x.i K a w := by
  have hst := I.stat
  simp only [planOk, Bool.and_eq_true] at hst
  obtain ⟨hitem, hst⟩ := hst
  obtain ⟨o, ho, hk, hmask, hseen⟩ := itemOk_out hitem
  obtain ⟨hanc, hpreds⟩ := maskOf_anc (fun y hy => (I.doneOk y hy).2) ho (fun e he => he) hmask
  have hlt : x.i < ops.size := (Array.getElem?_eq_some_iff.1 ho).1
  have hbit : ∀ j, x.bef.testBit j = true → S.getD j false = true := fun j hj => (hanc j hj).listed I.closed hp
  have hnb : ∀ u ∈ U, x.bef.testBit u.x.i = false := fun u hu => by
    cases hq : x.bef.testBit u.x.i with
    | false => rfl
    | true => have := hbit _ hq; rw [(I.pending hu).1] at this; cases this
  have hconf : ∀ u ∈ U, conflictA ops u.o o = false := fun u hu => by
    obtain ⟨hud, huok⟩ := I.uDone u hu
    obtain ⟨_, oy, hoy, hc, _⟩ := hseen u.x hud
    rw [huok.op] at hoy; cases hoy
    cases hq : conflictA ops u.o o with
    | false => rfl
    | true => have := hc (.inr hq); rw [hnb u hu] at this; cases this
  have hdd : ∀ u ∈ U, ∀ d, o.dst = some d → u.o.dst ≠ some d := fun u hu d hd => by
    obtain ⟨hud, huok⟩ := I.uDone u hu
    obtain ⟨_, oy, hoy, _, hne⟩ := hseen u.x hud
    rw [huok.op] at hoy; cases hoy
    exact hne d hd
  have hne : ∀ u ∈ U, u.x.i ≠ x.i := fun u hu => (hseen u.x (I.uDone u hu).1).1
  have hrun := I.run
  simp only [runPi, ho, hx] at hrun
  split at hrun
  case isFalse => cases hrun
  let envR : Env := fun t => if t ∈ o.looksAt ops then env t else none
  have hagree : ∀ d ∈ o.looksAt ops, env d = envR d := fun d hd => by simp only [envR]; rw [if_pos hd]
  have FR : FrameRel ρ n envR a := by
    refine ⟨I.frSize, fun t v ht => ?_, fun t v ht => ?_⟩
    all_goals
      simp only [envR] at ht
      split at ht
      · rename_i hl
        obtain ⟨h1, h2⟩ := I.fr t v ht
        have h3 : ¬ ∃ u ∈ U, u.o.dst = some t := fun ⟨u, hu, hd⟩ => by
          have := hconf u hu
          simp only [conflictA, hd, Bool.or_eq_false_iff] at this
          simp [hl] at this
        first | exact h1 | exact h2.resolve_left h3
      · cases ht
  cases hs : stepA P G C n ops o env h with
  | none => rw [hs] at hrun; cases hrun
  | some q =>
    rcases stepA_agree hagree hs with ⟨v, e, h', rfl, hput, e', hput', hs'⟩ | ⟨ch, h', rfl, hs'⟩
    · rw [hs] at hrun
      simp only at hrun
      obtain ⟨hg1, hg2⟩ := putA_get hput
      obtain ⟨hg1', _⟩ := putA_get hput'
      refine stepA_sound SC I.rel FR ho hs' ?_ (fun ch h'' e2 => by cases e2)
      intro env2 h2 e2 ρ' v' w' hext hR hF
      cases e2
      refine hK (dirt (pend.filter fun p => !x.bef.testBit p.1.x.i)) e h' ρ' _ w' ?_
      have hle := hext.le I.rel
      have hget2 : ∀ d, o.dst ≠ some d → (a.put o.dst v').tmps.getD d undef = a.tmps.getD d undef := fun d hd => by
        cases hq : o.dst with
        | none => rfl
        | some d0 =>
          simp only [Act.put]
          rw [Array.getD_eq_getD_getElem?, Array.getD_eq_getD_getElem?, Array.getElem?_setIfInBounds_ne (fun e => hd (by rw [hq, e]))]
      constructor
      case run => exact hrun
      case stat => exact hst
      case doneOk =>
        intro y hy
        simp only [List.mem_cons] at hy
        rcases hy with rfl | hy
        · exact ⟨⟨o, ho, hk⟩, hanc⟩
        · exact I.doneOk y hy
      case cover =>
        intro i hi
        rcases I.cover i hi with ⟨y, hy, e⟩ | ⟨y, hy, e⟩
        · exact .inl ⟨y, by simp [hy], e⟩
        · simp only [List.mem_cons] at hy
          rcases hy with rfl | hy
          · exact .inl ⟨_, by simp, e⟩
          · exact .inr ⟨y, hy, e⟩
      case uDone => exact fun u hu => ⟨by simp [(I.uDone u hu).1], (I.uDone u hu).2⟩
      case size => rw [Array.size_setIfInBounds]; exact I.size
      case listed =>
        intro i hi
        rw [setIfInBounds_getD (by rw [I.size]; exact hlt)]
        by_cases e1 : i = x.i
        · subst e1
          simp only [if_true, true_iff]
          exact ⟨hne, fun y hy e2 => planOk_distinct hst y hy x (by simp) e2.symm⟩
        · rw [if_neg e1, I.listed i hi]
          constructor
          · rintro ⟨h1, h2⟩; exact ⟨h1, fun y hy => h2 y (by simp [hy])⟩
          · rintro ⟨h1, h2⟩
            refine ⟨h1, fun y hy => ?_⟩
            simp only [List.mem_cons] at hy
            rcases hy with rfl | hy
            · exact fun k => e1 k.symm
            · exact h2 y hy
      case closed =>
        intro i o2 ho2 hi e2 he2 hbd
        rw [setIfInBounds_getD (by rw [I.size]; exact hlt)] at hi ⊢
        split
        · rfl
        · by_cases e1 : i = x.i
          · subst e1; exact hp o2 ho2 e2 he2 hbd
          · rw [if_neg e1] at hi; exact I.closed i o2 ho2 hi e2 he2 hbd
      case distinct => exact I.distinct
      case order => exact I.order
      case self => exact I.self
      case noRest => exact fun u hu y hy => I.noRest u hu y (by simp [hy])
      case frSize => cases hq : o.dst <;> simp [Act.put, I.frSize]
      case fr =>
        intro d v2 hd
        by_cases hdst : o.dst = some d
        · have h1 := (hg1 d hdst)
          rw [h1.2] at hd; cases hd
          exact ⟨h1.1, .inr (hF.rel d _ (hg1' d hdst).2)⟩
        · rw [hg2 d hdst] at hd
          obtain ⟨h1, h2⟩ := I.fr d v2 hd
          rw [hget2 d hdst]
          exact ⟨h1, h2.imp id fun h3 => h3.mono hle⟩
      case pv =>
        intro u hu d hd
        rw [hg2 d (fun e => hdd u hu d e hd)]
        exact I.pv u hu d hd
      case opnd =>
        intro u hu d hd
        have hdst : o.dst ≠ some d := fun e => by
          have := hconf u hu
          simp only [conflictA, e, Bool.or_eq_false_iff] at this
          simp [hd] at this
        rw [hget2 d hdst]
        rcases I.opnd u hu d hd with h1 | ⟨h1, h2⟩
        · exact .inl h1
        · exact .inr ⟨h1, fun v2 hv2 => ⟨(h2 v2 hv2).1, (h2 v2 hv2).2.mono hle⟩⟩
      case uniq => exact I.uniq
      case plt => exact I.plt
      case rel => exact hR
      case inPend =>
        intro u hu hkk
        obtain ⟨b, hb⟩ := I.inPend u hu hkk
        refine ⟨true, ?_⟩
        simp only [dirt, List.mem_map, List.mem_filter]
        exact ⟨(u, b), ⟨hb, by simp [hnb u hu]⟩, rfl⟩
      case clean =>
        intro q hq hf
        simp only [dirt, List.mem_map] at hq
        obtain ⟨q', _, rfl⟩ := hq
        cases hf
      case pOk =>
        intro q hq
        simp only [dirt, List.mem_map, List.mem_filter] at hq
        obtain ⟨q', ⟨hq', _⟩, rfl⟩ := hq
        exact I.pOk q' hq'
      case made =>
        intro u hu hka hw
        obtain ⟨h1, h2, h3⟩ := I.made u hu hka hw
        exact ⟨Nat.lt_of_lt_of_le h1 hext.1, by rw [hext.2 _ h1]; exact h2, h3⟩
      case apart => exact I.apart
      case ext => exact I.ext.trans hext
      case defers => rw [put_defers]; exact I.defers
    · rw [hs] at hrun
      simp only [Option.some.injEq] at hrun
      refine stepA_sound SC I.rel FR ho hs' (fun env' h'' e2 => by cases e2) ?_
      intro ch2 h2 e2 ρ' ch' w' hext hR hc
      cases e2
      exact O.panic ch h' hrun.symm ρ' ch' a w' (I.ext.trans hext) hR hc I.defers

theorem nodup_length_le : ∀ (N : Nat) (l : List Nat), l.Nodup → (∀ x ∈ l, x < N) → l.length ≤ N
  | 0, l, _, h => by
    cases l with
    | nil => simp
    | cons x l => have := h x (by simp); omega
  | N + 1, l, hn, h => by
    have h1 := nodup_length_le N (l.erase N) (hn.erase N) fun x hx => by
      have h2 := (hn.mem_erase_iff).1 hx
      have := h x h2.2
      omega
    rw [List.length_erase] at h1
    split at h1 <;> omega

theorem nodup_covers {N : Nat} {l : List Nat} (hn : l.Nodup) (h : ∀ x ∈ l, x < N) (hl : l.length = N) : ∀ i, i < N → i ∈ l := by
  intro i hi
  by_cases hm : i ∈ l
  · exact hm
  · exfalso
    -- with i beside it there would be too many
    have := nodup_length_le N (i :: l) (List.nodup_cons.2 ⟨hm, hn⟩) fun x hx => by
      simp only [List.mem_cons] at hx
      rcases hx with rfl | hx
      · exact hi
      · exact h x hx
    simp at this
    omega

theorem draw_any (SC : SoundC P G B w0 C) (O : Owed G B w0 n r ρ0 h0 ds Q) : ∀ (fuel : Nat) {done rest : List PItem} {U : List PRec} {pend : List (PRec × Bool)} {env : Env} {h : Heap} {ρ : Ren} {S : Array Bool} {a : Act} {w : World},
    Inv P G B w0 C n ops r ρ0 h0 ds done rest U pend env h ρ S a w → U.length + rest.length = fuel → wpAny P .any ops Q fuel S a w := by
  have fin : ∀ {done : List PItem} {pend : List (PRec × Bool)} {env : Env} {h : Heap} {ρ : Ren} {S : Array Bool} {a : Act} {w : World},
      Inv P G B w0 C n ops r ρ0 h0 ds done [] [] pend env h ρ S a w → Q .normal a w := by
    intro done pend env h ρ S a w I
    have hrun := I.run
    simp only [runPi] at hrun
    split at hrun
    · simp only [Option.some.injEq] at hrun
      refine O.ok env h hrun.symm ρ a w I.ext I.rel ⟨I.frSize, fun t v ht => (I.fr t v ht).1, fun t v ht => ?_⟩ I.defers
      exact (I.fr t v ht).2.resolve_left fun ⟨u, hu, _⟩ => by simp at hu
    · cases hrun
  intro fuel
  induction fuel with
  | zero =>
    intro done rest U pend env h ρ S a w I hlen
    have hU : U = [] := List.eq_nil_of_length_eq_zero (by omega)
    have hr : rest = [] := List.eq_nil_of_length_eq_zero (by omega)
    subst hU hr
    refine ⟨?_, fin I⟩
    rw [List.eq_nil_iff_forall_not_mem]
    intro i hi
    obtain ⟨h1, h2, _⟩ := mem_ready.1 hi
    rcases I.notListed h1 h2 with ⟨u, hu, _⟩ | ⟨y, hy, _⟩
    · simp at hu
    · simp at hy
  | succ fuel ih =>
    intro done rest U pend env h ρ S a w I hlen
    refine ⟨fun hr => ?_, fun i hi => ?_⟩
    · obtain ⟨rfl, rfl⟩ := I.ready hr
      exact fin I
    · obtain ⟨done, rest', U', pend', env', h', hb, hl2, I⟩ := Inv.bound rest I
      obtain ⟨h1, h2, o, ho, hpreds⟩ := mem_ready.1 hi
      have hp : PredsIn ops S i := fun o' ho' => by rw [ho] at ho'; cases ho'; exact hpreds
      rcases I.notListed h1 h2 with ⟨u, hu, rfl⟩ | ⟨y, hy, rfl⟩
      · obtain ⟨Ub, Ua, rfl⟩ := List.append_of_mem hu
        refine I.light hb hp fun ρ' a' w' I' => ih I' ?_
        simp at hl2 ⊢; omega
      · cases rest' with
        | nil => simp at hy
        | cons x rest2 =>
          have hx : x.kind = .heavy := hb
          have hyx : y = x := by
            simp only [List.mem_cons] at hy
            rcases hy with rfl | hy
            · rfl
            · exfalso
              have hst := I.stat
              simp only [planOk, Bool.and_eq_true] at hst
              have hbit := planOk_heavy hst.2 x (by simp) hx y hy
              obtain ⟨ox, hox, _, hm, _⟩ := itemOk_out hst.1
              have hxa := (maskOf_anc (fun y hy => (I.doneOk y hy).2) hox (fun e he => he) hm).1
              have hanc := planOk_anc hst.2 (fun z hz => by
                simp only [List.mem_cons] at hz
                rcases hz with rfl | hz
                · exact hxa
                · exact (I.doneOk z hz).2) y hy _ hbit
              have := hanc.listed I.closed hp
              rw [I.pendingRest (by simp) (Array.getElem?_eq_some_iff.1 hox).1] at this
              cases this
          subst hyx
          refine I.heavy SC hx hp O fun pend' env' h' ρ' a' w' I' => ih I' ?_
          simp at hl2 ⊢; omega

theorem drawA_sound (SC : SoundC P G B w0 C) (hm : P.follows .mixedOrders = true) {env : Env} {h : Heap} {r : SRes} (hd : drawA P G C n ops env h = some r) {id : Nat} {ρ : Ren} {w : World} {a : Act}
    (R : Rel G B w0 ρ h w) (F : FrameRel ρ n env a) (O : Owed G B w0 n r ρ h a.defers Q) : (Code.region id ops true).wp P Q a w := by
  unfold drawA at hd
  split at hd
  case h_2 => cases hd
  rename_i l hl
  unfold plan at hl
  simp only at hl
  split at hl
  case isFalse => cases hl
  rename_i hc
  cases hl
  simp only [Bool.and_eq_true, decide_eq_true_eq] at hc
  obtain ⟨hlen, hok⟩ := hc
  refine wp_region_any hm ?_
  -- all are there
  have hall : ∀ (l seen : List PItem), planOk P ops seen l = true → (∀ y ∈ l, y.i < ops.size) ∧ (l.map (·.i)).Nodup := by
    intro l
    induction l with
    | nil => intro seen _; exact ⟨by simp, by simp⟩
    | cons x l ih =>
      intro seen hs
      simp only [planOk, Bool.and_eq_true] at hs
      obtain ⟨h1, h2⟩ := ih _ hs.2
      obtain ⟨o, ho, _⟩ := itemOk_out hs.1
      refine ⟨fun y hy => ?_, ?_⟩
      · simp only [List.mem_cons] at hy
        rcases hy with rfl | hy
        · exact (Array.getElem?_eq_some_iff.1 ho).1
        · exact h1 y hy
      · simp only [List.map_cons, List.nodup_cons]
        refine ⟨fun hmem => ?_, h2⟩
        obtain ⟨y, hy, e⟩ := List.mem_map.1 hmem
        exact planOk_distinct hs.2 y hy x (by simp) e.symm
  obtain ⟨hlt, hnd⟩ := hall _ _ hok
  have hcover : ∀ i, i < ops.size → ∃ y ∈ mkPlan P ops ops.size [], y.i = i := by
    intro i hi
    have : i ∈ (mkPlan P ops ops.size []).map (·.i) := nodup_covers hnd (fun j hj => by
      obtain ⟨y, hy, rfl⟩ := List.mem_map.1 hj
      exact hlt y hy) (by simp [hlen]) i hi
    obtain ⟨y, hy, e⟩ := List.mem_map.1 this
    exact ⟨y, hy, e⟩
  refine draw_any (C := C) (r := r) (ρ0 := ρ) (h0 := h) (ds := a.defers) SC O ops.size (done := []) (rest := mkPlan P ops ops.size []) (U := []) (pend := []) (env := env) (h := h) (ρ := ρ) ?_ (by simp [hlen])
  have hrep : ∀ (i : Nat) (b : Bool), i < ops.size → (Array.replicate ops.size false).getD i b = false := fun i b hi => by
    rw [Array.getD_eq_getD_getElem?]; simp [hi]
  constructor
  case run => exact hd
  case stat => exact hok
  case doneOk => simp
  case cover => exact fun i hi => .inr (hcover i hi)
  case uDone => simp
  case size => simp
  case listed =>
    intro i hi
    rw [hrep i true hi]
    simp only [Bool.false_eq_true, false_iff]
    rintro ⟨_, h2⟩
    obtain ⟨y, hy, e⟩ := hcover i hi
    exact h2 y hy e
  case closed =>
    intro i o ho hi
    rw [hrep i true (Array.getElem?_eq_some_iff.1 ho).1] at hi
    cases hi
  case distinct => simp
  case order => simp
  case self => simp
  case noRest => simp
  case frSize => exact F.size
  case fr => exact fun d v hdv => ⟨F.lt d v hdv, .inr (F.rel d v hdv)⟩
  case pv => simp
  case opnd => simp
  case uniq => simp
  case plt => simp
  case rel => exact R.drew
  case inPend => simp
  case clean => simp
  case pOk => simp
  case made => simp
  case apart => simp
  case ext => exact Ext.refl _ _
  case defers => rfl

end
end Go.Am
