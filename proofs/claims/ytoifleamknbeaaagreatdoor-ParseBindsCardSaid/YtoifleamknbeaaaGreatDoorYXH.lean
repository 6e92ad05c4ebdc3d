/- Slices of one cell each: parts of them, one appended to another. -/
import Derived.Test.YtoifleamknbeaaaGreatDoorYSJ
open Go Go.Am
namespace Go.Proofs.ZL
set_option maxRecDepth 100000
set_option linter.unusedSimpArgs false
set_option linter.unusedVariables false

theorem forceL_some : ∀ l : List Value, forceL l = some l
 | [] => rfl
 | a :: l => by unfold forceL; rw [forceL_some l]

def CV (h : Heap) (lo : Nat) (b : Option Addr) (n es : Nat) (vs : List Value) : Prop :=
 (b = none ∧ n = 0 ∧ es = 0 ∧ vs = []) ∨ ∃ i, b = some ⟨i, 0, none⟩ ∧ lo ≤ i ∧ i < h.next ∧ es = 1 ∧ n = vs.length ∧ h.obj i = some (.cells false vs)
def PV (h : Heap) (b : Option Addr) (n es : Nat) (vs : List Value) : Prop :=
 (b = none ∧ n = 0 ∧ es = 0 ∧ vs = []) ∨ ∃ j off ro cs, b = some ⟨j, off, none⟩ ∧ es = 1 ∧ n = vs.length ∧ h.obj j = some (.cells ro cs) ∧ off + n ≤ cs.length ∧ (cs.drop off).take n = vs
theorem CV.len {h : Heap} {lo n es : Nat} {b : Option Addr} {vs : List Value} (c : CV h lo b n es vs) : n = vs.length := by
 rcases c with ⟨_, rfl, _, rfl⟩ | ⟨i, _, _, _, _, rfl, _⟩ <;> rfl
theorem PV.len {h : Heap} {n es : Nat} {b : Option Addr} {vs : List Value} (c : PV h b n es vs) : n = vs.length := by
 rcases c with ⟨_, rfl, _, rfl⟩ | ⟨i, _, _, _, _, _, rfl, _⟩ <;> rfl
theorem CV.part {h : Heap} {lo n es : Nat} {b : Option Addr} {vs : List Value} (c : CV h lo b n es vs) : PV h b n es vs := by
 rcases c with ⟨rfl, rfl, rfl, rfl⟩ | ⟨i, rfl, _, _, rfl, rfl, h1⟩
 ·exact .inl ⟨rfl, rfl, rfl, rfl⟩
 ·exact .inr ⟨i, 0, _, _, rfl, rfl, rfl, h1, by omega, by rw [List.drop_zero, List.take_length]⟩
theorem CV.mono {h h' : Heap} {lo n es : Nat} {b : Option Addr} {vs : List Value} (c : CV h lo b n es vs) (hn : h.next ≤ h'.next) (ho : ∀ j, lo ≤ j → j < h.next → h'.obj j = h.obj j) : CV h' lo b n es vs := by
 rcases c with ⟨rfl, rfl, rfl, rfl⟩ | ⟨i, rfl, h0, h1, rfl, rfl, h2⟩
 ·exact .inl ⟨rfl, rfl, rfl, rfl⟩
 ·exact .inr ⟨i, rfl, h0, by omega, rfl, rfl, by rw [ho i h0 h1]; exact h2⟩
theorem PV.mono {h h' : Heap} {n es : Nat} {b : Option Addr} {vs : List Value} (c : PV h b n es vs) (ho : ∀ j off, b = some ⟨j, off, none⟩ → h'.obj j = h.obj j) : PV h' b n es vs := by
 rcases c with ⟨rfl, rfl, rfl, rfl⟩ | ⟨j, off, ro, cs, rfl, rfl, rfl, h2, h3, h4⟩
 ·exact .inl ⟨rfl, rfl, rfl, rfl⟩
 ·exact .inr ⟨j, off, ro, cs, rfl, rfl, rfl, by rw [ho j off rfl]; exact h2, h3, h4⟩

section
variable {n : Nat} {F : List PanicEntry → Heap → Prop} {env : Env} {h : Heap} {lt : Bool} {ops : Array Oper} {d : Nat} {t : TypeId} {p : String} {a : Array Edge} {g : Option (Nat × Bool)} {K : Env → Heap → (Heap → Prop) → Prop}

theorem WS.appendC {ty ty' e : TypeId} {u : TypeDesc} {x y : Operand} {b1 b2 : Option Addr} {n1 es1 n2 es2 bytes lo : Nat} {v1 v2 : List Value}
  (hg : gOk ops env g = some true) (hn : Nat.blt d n = true) (hx : evalA G env x = some (.slice b1 n1 es1)) (hy : evalA G env y = some (.slice b2 n2 es2))
  (hu : Tryz.prog.underlying ty = some (.slice e)) (hu' : Tryz.prog.underlying ty' = some u) (hi : ∀ k, u ≠ .int k) (he : elemFits Tryz.prog e = some (1, bytes)) (hr : (n1 + n2) * bytes ≤ room)
  (c1 : CV h lo b1 n1 es1 v1) (c2 : PV h b2 n2 es2 v2) (h1 : v2.all (·.oneCell') = true) (hlo : lo ≤ h.next)
  (hk : ∀ h' b es, h.next ≤ h'.next → CV h' lo b (n1 + n2) es (v1 ++ v2) → (∀ i, i < h.next → (∀ off, b1 ≠ some ⟨i, off, none⟩) → h'.obj i = h.obj i) → K (upd env d (.slice b (n1 + n2) es)) h' fun _ => False) :
  WS Tryz.prog G X n lt ops ⟨some d, .call ⟨.builtin .append, #[x, y], #[ty, ty']⟩, t, p, a, g⟩ env h K F := by
 have hnil : n2 = 0 → v2 = [] → appendedV 1 h (.slice b2 n2 es2) = some (0, []) → WS Tryz.prog G X n lt ops ⟨some d, .call ⟨.builtin .append, #[x, y], #[ty, ty']⟩, t, p, a, g⟩ env h K F := by
  intro hm hv hap
  subst hm; subst hv
  refine WS.heapV hg hn (v := .slice b1 n1 es1) (h' := h) ?_ ?_
  ·simp only [opA, callA, evalAll, hx, hy, appendA, List.getElem?_toArray, List.getElem?_cons_zero, List.getElem?_cons_succ, hu, hu', he, hap]
   rcases c1 with ⟨rfl, rfl, rfl, rfl⟩ | ⟨i, rfl, _, _, rfl, rfl, _⟩
   ·cases u <;> first | exact (hi _ rfl).elim | rfl
   ·cases u <;> first | exact (hi _ rfl).elim | simp
  ·have hx := hk h b1 es1 (Nat.le_refl _) (by rw [List.append_nil, Nat.add_zero]; exact c1) fun _ _ _ => rfl
   rw [Nat.add_zero] at hx; exact hx
 rcases c2 with ⟨rfl, rfl, rfl, rfl⟩ | ⟨j, off, ro, cs, rfl, rfl, rfl, h2, h3, h4⟩
 ·exact hnil rfl rfl rfl
 ·rcases Nat.eq_zero_or_pos v2.length with h0 | hpos
  ·exact hnil h0 (List.eq_nil_of_length_eq_zero h0) (by unfold appendedV; simp only; rw [if_pos h0])
  ·have hsa : SliceAt h b1 n1 es1 1 v1 := by
    rcases c1 with ⟨rfl, rfl, rfl, rfl⟩ | ⟨i, rfl, _, _, rfl, rfl, h5⟩
    ·exact .inl ⟨rfl, rfl, rfl, rfl⟩
    ·exact .inr ⟨i, 0, v1, rfl, rfl, h5, by omega, by rw [List.drop_zero, Nat.mul_one, List.take_length]⟩
   obtain ⟨h', e1, e2, e3, e4⟩ := appendA_of (P := Tryz.prog) (ty := ty) (ty' := ty') (j := j) (off := off) hu hu' hi he hpos h2 (by rw [Nat.mul_one]; exact h3) (by rw [Nat.mul_one]; exact h4) hr h1 hsa
   refine WS.heapV hg hn (v := .slice (some ⟨h.next, 0, none⟩) (n1 + v2.length) 1) (h' := h') ?_ (hk h' _ 1 (by omega) ?_ e4)
   ·simp only [opA, callA, evalAll, hx, hy, e1, Option.map_some]
   ·exact .inr ⟨h.next, rfl, hlo, by omega, rfl, by rw [List.length_append, c1.len], e3⟩

theorem slice_hi {P : Program} {ty e : TypeId} {j m : Nat} {k : Int} {q : IntKind} (hu : P.underlying ty = some (.slice e)) (hs : sizeT P e = some 1) (hk : 0 ≤ k ∧ k ≤ m) :
  sliceA P ty (.slice (some ⟨j, 0, none⟩) m 1) none (some (.int q k)) = some (.slice (some ⟨j, 0, none⟩) k.toNat 1) := by
 unfold sliceA
 simp only [hu, boundA, hs]
 simp [hk.1, hk.2]
theorem slice_lo {P : Program} {ty e : TypeId} {j m : Nat} {k : Int} {q : IntKind} (hu : P.underlying ty = some (.slice e)) (hs : sizeT P e = some 1) (hk : 0 ≤ k ∧ k ≤ m) :
  sliceA P ty (.slice (some ⟨j, 0, none⟩) m 1) (some (.int q k)) none = some (.slice (some ⟨j, k.toNat, none⟩) (m - k.toNat) 1) := by
 unfold sliceA
 simp only [hu, boundA, hs]
 simp [hk.1, hk.2]
end
end Go.Proofs.ZL
