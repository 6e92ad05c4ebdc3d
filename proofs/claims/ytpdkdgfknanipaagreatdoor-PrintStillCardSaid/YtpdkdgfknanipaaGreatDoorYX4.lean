/- The printer on the heap, first part. -/
import Derived.Test.YtpdkdgfknanipaaGreatDoorYE2
section
open Go Go.Am
namespace Go.Am
section
variable {P : Program} {G : Nat} {X : eQ} {n : Nat} {F : List PanicEntry → aA → Prop} {env : Env} {h : aA} {lt : Bool} {ops : Array Oper} {d : Nat} {t : TypeId} {p : String} {a : Array Edge} {g : Option (Nat × Bool)} {K : Env → aA → (aA → Prop) → Prop}

theorem WS.aJi {ty ty' e : TypeId} {u : TypeDesc} {x y : Operand} {b : Option Addr} {len es bytes : Nat} {s : ByteArray} {old : List Value} (hg : cT ops env g = some true) (hn : Nat.blt d n = true) (hx : aJ G env x = some (.slice b len es)) (hy : aJ G env y = some (.string s))
  (hu : P.underlying ty = some (.slice e)) (hu' : P.underlying ty' = some u) (hi : ∀ k, u ≠ .int k) (he : dY P e = some (1, bytes))
  (hm : 0 < s.size) (hr : (len + s.size) * bytes ≤ room) (hs : kG h b len es 1 old) (hty : ∀ i off, b = some ⟨i, off, none⟩ → off = 0 ∧ h.ty i = some e)
  (hk : ∀ h', h'.next = h.next + 1 → h'.obj h.next = some (.cells false (old ++ s.data.toList.map fun b => Value.int .u8 b.toNat)) → (∀ i, i < h.next → (∀ off, b ≠ some ⟨i, off, none⟩) → h'.obj i = h.obj i) → (∀ i, i < h.next → h'.ty i = h.ty i) → h'.ty h.next = some e → K (bL env d (.slice (some ⟨h.next, 0, none⟩) (len + s.size) 1)) h' fun _ => False) :
  WS P G X n lt ops ⟨some d, .call ⟨.builtin .append, #[x, y], #[ty, ty']⟩, t, p, a, g⟩ env h K F := by
 have ha : eM 1 h (.string s) = some (s.size, s.data.toList.map fun b => Value.int .u8 b.toNat) := by simp only [eM, if_true]
 have h1 : (s.data.toList.map fun b => Value.int .u8 b.toNat).all (·.oneCell') = true := by
  rw [List.all_eq_true]
  intro v hv
  obtain ⟨b, _, rfl⟩ := List.mem_map.1 hv
  rfl
 obtain ⟨h', e1, e2, e3, e4, e5, e6⟩ : ∃ h', eR P #[ty, ty'] [.slice b len es, .string s] h = some (.slice (some ⟨h.next, 0, none⟩) (len + s.size) 1, h') ∧ h'.next = h.next + 1 ∧ h'.obj h.next = some (.cells false (old ++ s.data.toList.map fun b => Value.int .u8 b.toNat)) ∧
   (∀ i, i < h.next → (∀ off, b ≠ some ⟨i, off, none⟩) → h'.obj i = h.obj i) ∧ (∀ i, i < h.next → h'.ty i = h.ty i) ∧ h'.ty h.next = some e := by
  rcases hs with ⟨rfl, rfl, rfl, rfl⟩ | ⟨i, off', cells, rfl, rfl, hob, hle, hold⟩
  ·refine ⟨(h.alloc (.cells false (s.data.toList.map fun b => Value.int .u8 b.toNat))).note h.next (some e), ?_, rfl, by rw [aA.eV, cY]; rfl, fun i hlt _ => by rw [aA.eV]; exact bX (by omega) rfl, fun i hlt => ?_, ?_⟩
   ·simp only [eR, List.getElem?_toArray, List.getElem?_cons_zero, List.getElem?_cons_succ, hu, hu', he, ha]
    cases u <;> first | exact (hi _ rfl).elim | (rw [if_neg (by omega), if_pos (by simpa using hr)]; simp)
   ·simp only [aA.note, aA.alloc, if_neg (Nat.ne_of_lt hlt)]
   ·simp only [aA.note, if_true]
  ·obtain ⟨rfl, ht⟩ := hty i off' rfl
   refine ⟨((h.put i none).alloc (.cells false (old ++ s.data.toList.map fun b => Value.int .u8 b.toNat))).note h.next (some e), ?_, rfl, ?_, fun k hlt hne => ?_, fun k hlt => ?_, ?_⟩
   ·simp only [eR, List.getElem?_toArray, List.getElem?_cons_zero, List.getElem?_cons_succ, hu, hu', he, ha]
    cases u <;> first | exact (hi _ rfl).elim | (rw [if_neg (by omega)]; simp only [decide_true, hr, h1, Bool.and_self, if_true, hob, aA.cells, if_pos hle, hold, Option.map_some, ht, and_self])
   ·rw [aA.eV]; exact cY (h := h.put i none)
   ·rw [aA.eV]
    refine bX (h := h.put i none) (by simp only [aA.aE]; omega) (bF (fun e => ?_) rfl)
    subst e
    exact hne 0 rfl
   ·simp only [aA.note, aA.alloc, aA.aE, if_neg (Nat.ne_of_lt hlt)]
    show (if k = h.next then none else h.ty k) = h.ty k
    rw [if_neg (Nat.ne_of_lt hlt)]
   ·simp only [aA.note, if_true]
 refine WS.r9 hg hn (v := .slice (some ⟨h.next, 0, none⟩) (len + s.size) 1) (h' := h') ?_ (hk h' e2 e3 e4 e5 e6)
 simp only [c6, iF, bO, hx, hy, e1, Option.map_some]

theorem WS.aJh {ty ty' e : TypeId} {u : TypeDesc} {x y : Operand} {b : Option Addr} {len es bytes : Nat} {s : ByteArray} {old : List Value} (hg : cT ops env g = some true) (hn : Nat.blt d n = true) (hx : aJ G env x = some (.slice b len es)) (hy : aJ G env y = some (.string s))
  (hu : P.underlying ty = some (.slice e)) (hu' : P.underlying ty' = some u) (hi : ∀ k, u ≠ .int k) (he : dY P e = some (1, bytes)) (hm : s.size = 0) (hs : kG h b len es 1 old)
  (hk : K (bL env d (.slice b len es)) h fun _ => False) :
  WS P G X n lt ops ⟨some d, .call ⟨.builtin .append, #[x, y], #[ty, ty']⟩, t, p, a, g⟩ env h K F := by
 have ha : eM 1 h (.string s) = some (s.size, s.data.toList.map fun b => Value.int .u8 b.toNat) := by simp only [eM, if_true]
 have e1 : eR P #[ty, ty'] [.slice b len es, .string s] h = some (.slice b len es, h) := by
  rcases hs with ⟨rfl, rfl, rfl, rfl⟩ | ⟨i, off', cells, rfl, rfl, hob, hle, hold⟩
  ·simp only [eR, List.getElem?_toArray, List.getElem?_cons_zero, List.getElem?_cons_succ, hu, hu', he, ha]
   cases u <;> first | exact (hi _ rfl).elim | (rw [if_pos hm])
  ·simp only [eR, List.getElem?_toArray, List.getElem?_cons_zero, List.getElem?_cons_succ, hu, hu', he, ha]
   cases u <;> first | exact (hi _ rfl).elim | (rw [if_pos hm]; simp)
 refine WS.r9 hg hn (v := .slice b len es) (h' := h) ?_ hk
 simp only [c6, iF, bO, hx, hy, e1, Option.map_some]
end
end Go.Am

namespace Go.Proofs.ZL
set_option maxRecDepth 100000
set_option linter.unusedSimpArgs false
set_option linter.unusedVariables false
set_option maxHeartbeats 4000000
variable {h : aA} {Q : bR → Prop} {L : List Tok} {p : Nat} {hd : Bool} {src : ByteArray}
def j4 (s : ByteArray) : List Value := s.data.toList.map fun b => Value.int .u8 b.toNat
theorem aCn (s u : ByteArray) : j4 (s ++ u) = j4 s ++ j4 u := by unfold j4; rw [ByteArray.data_append, Array.toList_append, List.map_append]
theorem oE (s : ByteArray) : (j4 s).length = s.size := by unfold j4; rw [List.length_map, Array.length_toList]; rfl
theorem aFw {s : ByteArray} (h : s.size = 0) : s = (⟨#[]⟩ :ByteArray) := by
 obtain ⟨⟨l⟩⟩ := s
 have : l.length = 0 := h
 rw [List.eq_nil_of_length_eq_zero this]
theorem aJg (s : ByteArray) : s ++ (⟨#[]⟩ :ByteArray) = s := by
 apply ByteArray.ext
 rw [ByteArray.data_append]
 exact Array.append_empty
structure gI (h : aA) (p b : Nat) (d : Int) (acc : ByteArray) : Prop where
 lt : p < h.next
 ty : h.ty p = some 51
 obj : ∃ a v n es, h.obj p = some (.cells false [.pointer a, .slice v n es, .int .i64 d]) ∧ (a = none ∨ a = some ⟨p, 0, none⟩) ∧
  ((v = none ∧ n = 0 ∧ es = 0 ∧ acc = (⟨#[]⟩ :ByteArray) ∧ b = p) ∨ (v = some ⟨b, 0, none⟩ ∧ n = acc.size ∧ 0 < acc.size ∧ es = 1 ∧ p < b ∧ b < h.next ∧ h.ty b = some 5 ∧ h.obj b = some (.cells false (j4 acc))))
theorem gI.aY {p b : Nat} {d : Int} {acc : ByteArray} (ps : gI h p b d acc) : p ≤ b ∧ b < h.next := by
 obtain ⟨a, v, n, es, _, _, h1 | h1⟩ := ps.obj
 ·have := ps.lt; omega
 ·omega
theorem gI.dC {h h' : aA} {p b : Nat} {d : Int} {acc : ByteArray} (ps : gI h p b d acc) (hn : h.next ≤ h'.next) (hp : h'.obj p = h.obj p) (hb : h'.obj b = h.obj b) (tp : h'.ty p = h.ty p) (tb : h'.ty b = h.ty b) : gI h' p b d acc := by
 obtain ⟨a, v, n, es, h1, h2, h3⟩ := ps.obj
 refine ⟨by have := ps.lt; omega, by rw [tp]; exact ps.ty, a, v, n, es, by rw [hp]; exact h1, h2, ?_⟩
 rcases h3 with h3 | ⟨k1, k2, k3, k4, k5, k6, k7, k8⟩
 ·exact .inl h3
 ·exact .inr ⟨k1, k2, k3, k4, k5, by omega, by rw [tb]; exact k7, by rw [hb]; exact k8⟩
theorem gI.alloc {p b : Nat} {d : Int} {acc : ByteArray} (ps : gI h p b d acc) (o : dS) : gI (h.alloc o) p b d acc := by
 have h1 := ps.lt
 have h2 := ps.aY
 refine ps.dC (by simp) (bX (by omega) rfl) (bX (by omega) rfl) ?_ ?_
 ·simp only [aA.alloc, if_neg (Nat.ne_of_lt h1)]
 ·simp only [aA.alloc, if_neg (Nat.ne_of_lt h2.2)]
theorem gI.put {p b : Nat} {d : Int} {acc : ByteArray} (ps : gI h p b d acc) {i : Nat} {o : Option dS} (hp : i ≠ p) (hb : i ≠ b) : gI (h.put i o) p b d acc :=
 ps.dC (Nat.le_refl _) (bF (Ne.symm hp) rfl) (bF (Ne.symm hb) rfl) rfl rfl

def aR (p b : Nat) (h h' : aA) : Prop := h.next ≤ h'.next ∧ ∀ j, j < h.next → j ≠ p → j ≠ b → h'.obj j = h.obj j
theorem aR.refl (p b : Nat) (h : aA) : aR p b h h := ⟨Nat.le_refl _, fun _ _ _ _ => rfl⟩
theorem aR.alloc {p b : Nat} {h h' : aA} (f : aR p b h h') (o : dS) : aR p b h (h'.alloc o) := ⟨Nat.le_trans f.1 (by simp), fun j hj hp hb => bX (by have := f.1; omega) (f.2 j hj hp hb)⟩
theorem aR.put {p b : Nat} {h h' : aA} (f : aR p b h h') {i : Nat} {o : Option dS} (hi : h.next ≤ i) : aR p b h (h'.put i o) := ⟨f.1, fun j hj hp hb => bF (by omega) (f.2 j hj hp hb)⟩
theorem aR.self {p b : Nat} {h h' : aA} (f : aR p b h h') {o : Option dS} : aR p b h (h'.put p o) := ⟨f.1, fun j hj hp hb => bF hp (f.2 j hj hp hb)⟩
theorem aR.call {p b b1 : Nat} {h H h2 : aA} {x : Option dS} (f : aR p b h H) (hb : b1 = b ∨ h.next ≤ b1) (g : cJ p (H.put b1 x) h2) : aR p b h h2 := by
 refine ⟨Nat.le_trans f.1 g.1, fun j hj hp hjb => ?_⟩
 rw [g.2 j (Nat.lt_of_lt_of_le hj f.1) hp, aA.lN, if_neg (by omega)]
 exact f.2 j hj hp hjb
theorem aR.out {p b : Nat} {h h' : aA} (f : aR p b h h') : cJ p (h.put b (h'.obj b)) h' := by
 refine ⟨f.1, fun j hj hp => ?_⟩
 rw [aA.lN]
 split
 ·rename_i e; rw [e]
 ·rename_i e; exact f.2 j hj hp e

def o5 : Nat := 100000000000000
def kO (p b : Nat) (d : Int) (h : aA) (A : ByteArray) (Q : bR → Prop) : Prop := ∀ h' b' x v, gI h' p b' d A → cJ p (h.put b x) h' → (b' = b ∨ h.next ≤ b') → Q (.ret v h')

theorem aRe {p b : Nat} {d : Int} {acc s : ByteArray} (ps : gI h p b d acc) (hl : (acc ++ s).size ≤ o5)
  (hq : kO p b d h (acc ++ s) Q) : aS Tryz.prog G X 77 [.pointer (some ⟨p, 0, none⟩), .string s] h Q := by
 have hp := ps.lt
 have hbl := ps.aY
 have hty := ps.ty
 obtain ⟨a0, v, n, es, ho, ha, hv⟩ := ps.obj
 have hsl : (acc ++ s).size = acc.size + s.size := ByteArray.size_append
 unfold o5 at hl
 obtain ⟨h1, hC, ho1, hn1, hf1, ht1⟩ : ∃ h1, (∀ C, wE C [.pointer (some ⟨p, 0, none⟩)] h = some (.ret (.tuple #[]) h1)) ∧ h1.obj p = some (.cells false [.pointer (some ⟨p, 0, none⟩), .slice v n es, .int .i64 d]) ∧ h1.next = h.next ∧ (∀ j, j ≠ p → h1.obj j = h.obj j) ∧ h1.ty = h.ty := by
  rcases ha with rfl | rfl
  ·refine ⟨h.put p (some (.cells false [.pointer (some ⟨p, 0, none⟩), .slice v n es, .int .i64 d])), fun C => ?_, eG, rfl, fun j hj => bF hj rfl, rfl⟩
   simp only [wE, ho, hty, List.length_cons, List.length_nil, and_self, if_true]
  ·refine ⟨h, fun C => ?_, ho, rfl, fun j hj => rfl, rfl⟩
   simp only [wE, ho, hty, and_self, if_true]
 have hsa : kG h1 v n es 1 (j4 acc) := by
  rcases hv with ⟨rfl, rfl, rfl, rfl, _⟩ | ⟨rfl, rfl, _, rfl, k5, _, _, k8⟩
  ·exact .inl ⟨rfl, rfl, rfl, rfl⟩
  ·refine .inr ⟨b, 0, j4 acc, rfl, rfl, by rw [hf1 b (by omega)]; exact k8, by rw [oE]; omega, ?_⟩
   rw [List.drop_zero, List.take_of_length_le (by rw [oE]; omega)]
 refine Wk Tryz.func77 Tryz.ntmps77 (w:=QN (Mb (w:=Mb (w:=QO (Ma (w:=MJ aQ6 (w:=aS.ext (X := X) (o := wE) (r := .ret (.tuple #[]) h1) rfl hC ?_)))))))
 refine QO (Ma (w:=Ma (w:=Mi (w:=Mj (w:=Mt (w:=Ma (w:=QK ?_)))))))
 by_cases hs0 : s.size = 0
 ·obtain rfl := aFw hs0
  rw [aJg] at hq
  apply WS.aJh
  (· rfl); (· rfl); (· exact aL); (· exact aL); (· rfl); (· rfl); (· intro k hk; cases hk); (· exact cE rfl); (· rfl); (· exact hsa)
  refine Mi (w:=Mj (w:=Mv (w:=QO (Ma (w:=Mr (w:=Mb (w:=Mb (w:=QM ?_))))))))
  refine ⟨_, aM, ?_⟩
  refine hq _ b _ _ ⟨by show p < h1.next; omega, by show h1.ty p = _; rw [ht1]; exact hty, some ⟨p, 0, none⟩, v, n, es, eG, .inr rfl, ?_⟩ (aR.out ⟨by show h.next ≤ h1.next; omega, fun j hj hjp hjb => bF hjp (hf1 j hjp)⟩) (.inl rfl)
  rcases hv with hv | ⟨k1, k2, k3, k4, k5, k6, k7, k8⟩
  ·exact .inl hv
  ·exact .inr ⟨k1, k2, k3, k4, k5, by show b < h1.next; omega, by show h1.ty b = _; rw [ht1]; exact k7, bF (by omega) ((hf1 b (by omega)).trans k8)⟩
 ·have hty1 : ∀ i off, v = some ⟨i, off, none⟩ → off = 0 ∧ h1.ty i = some 5 := by
   intro i off e
   rcases hv with ⟨rfl, _⟩ | ⟨k1, _, _, _, _, _, k7, _⟩
   ·cases e
   ·rw [k1] at e
    cases e
    exact ⟨rfl, by rw [ht1]; exact k7⟩
  apply WS.aJi
  (· rfl); (· rfl); (· exact aL); (· exact aL); (· rfl); (· rfl); (· intro k hk; cases hk); (· exact cE rfl); (· omega); (· unfold room; rcases hv with ⟨_, rfl, _⟩ | ⟨_, rfl, _⟩ <;> omega); (· exact hsa); (· exact hty1)
  intro h2 hn2 ho2 hf2 ht2 hte
  have hp2 : h2.obj p = some (.cells false [.pointer (some ⟨p, 0, none⟩), .slice v n es, .int .i64 d]) := by
   rw [hf2 p (by omega) fun off e => ?_]
   ·exact ho1
   ·rcases hv with ⟨rfl, _⟩ | ⟨k1, _, _, _, k5, _⟩
    ·cases e
    ·rw [k1] at e; cases e; omega
  refine Mi (w:=Mj (w:=Mv (w:=QO (Ma (w:=Mr (w:=Mb (w:=Mb (w:=QM ?_))))))))
  refine ⟨_, aM, ?_⟩
  refine hq _ h1.next _ _ ⟨by show p < h2.next; omega, by show h2.ty p = _; rw [ht2 p (by omega), ht1]; exact hty, some ⟨p, 0, none⟩, _, _, _, eG, .inr rfl, .inr ⟨rfl, ?_, by omega, rfl, by omega, by show h1.next < h2.next; omega, hte, ?_⟩⟩ (aR.out ⟨by show h.next ≤ h2.next; omega, fun j hj hjp hjb => ?_⟩) (.inr (by omega))
  ·rcases hv with ⟨_, rfl, _, rfl, _⟩ | ⟨_, rfl, _⟩
   ·rw [hsl]; show 0 + s.size = 0 + s.size; rfl
   ·exact hsl.symm
  ·rw [aCn]
   exact bF (by omega) ho2
  ·refine bF hjp ?_
   rw [hf2 j (by omega) fun off e => ?_]
   ·exact hf1 j hjp
   ·rcases hv with ⟨rfl, _⟩ | ⟨k1, _⟩
    ·cases e
    ·rw [k1] at e; cases e; exact hjb rfl

theorem aC1 (ss : List ByteArray) (a : ByteArray) : a.size ≤ (ss.foldl (· ++ ·) a).size := by
 induction ss generalizing a with
 | nil => exact Nat.le_refl _
 | cons s ss ih => exact Nat.le_trans (cZ a s) (ih (a ++ s))

theorem bH {p b q : Nat} {d : Int} {acc : ByteArray} {ss : List ByteArray} (ps : gI h p b d acc) (hqp : q ≠ p) (hqb : q ≠ b) (hql : q < h.next) (ho : h.obj q = some (.cells false (ss.map .string))) (hss : ss.length ≤ 100) (hl : (ss.foldl (· ++ ·) acc).size ≤ o5)
  (hq : kO p b d h (ss.foldl (· ++ ·) acc) Q) : aS Tryz.prog G X 42 [pV p, .slice (some ⟨q, 0, none⟩) ss.length 1] h Q := by
 have hp := ps.lt
 have hbl := ps.aY
 generalize hA : ss.foldl (· ++ ·) acc = A at *
 refine Wk Tryz.func42 Tryz.ntmps42 (w:=QN (Ma (w:=Ms (w:=Ma (w:=QL (Bk ?_))))))
 refine WC.cB hX (α := Nat × Nat × ByteArray) (m := fun a => ss.length - a.1) (Inv := fun a e h' => e 0 = some (pV p) ∧ e 6 = some (.slice (some ⟨q, 0, none⟩) ss.length 1) ∧ e 7 = some (.int .i64 ss.length) ∧ e 8 = some (.int .i64 a.1) ∧ gI h' p a.2.1 d a.2.2 ∧ aR p b h h' ∧ (a.2.1 = b ∨ h.next ≤ a.2.1) ∧ a.1 ≤ ss.length ∧ (ss.drop a.1).foldl (· ++ ·) a.2.2 = A)
  (0, b, acc) ⟨rfl, rfl, rfl, rfl, ps, aR.refl _ _ _, .inl rfl, Nat.zero_le _, hA⟩ ?_
 rintro ⟨i, b5, acc5⟩ env h5 ih ⟨e0, e6, e7, e8, ps5, fb5, hb5, hi5, hA5⟩
 simp only at e8 ps5 hb5 hi5 hA5
 have hn5 := fb5.1
 have ho5 := (fb5.2 q hql hqp hqb).trans ho
 refine QN (MF (w:=fun hh => QL (QU (QR (UA (QU (Bk (QN (Ml (w:=QK ?_))))))))) (v:=fun hh => QL (QU (QS (WC.exit (aH ?_))))))
 ·have hi : i < ss.length := by omega
  rw [List.drop_eq_getElem_cons hi, List.foldl_cons] at hA5
  refine WS.jC (v := .string ss[i]) (hc := ?_) (hk := ?_)
  ·rw [show 0 + (i : Int).toNat * 1 = i by omega, List.getElem?_map, List.getElem?_eq_getElem hi]; rfl
  refine Mb (w:=QL (QV (Ma (w:=Mi (w:=Mj (w:=Ma (w:=MJ aQ0 (w:=aRe (s := ss[i]) (by (repeat (first | assumption | (refine gI.put ?_ aB aB) | (refine gI.alloc ?_ _)))) ?_ ?_))))))))
  ·refine Nat.le_trans ?_ hl
   rw [← hA5]
   exact aC1 _ _
  intro h6 b6 x6 v6 ps6 fr6 hb6
  have hn6 : h5.next ≤ h6.next := fr6.1
  refine QL (QV (Mf (w:=Ma (w:=QL ?_))))
  exact ih (i + 1, b6, acc5 ++ ss[i]) _ _ (by simp only; omega) ⟨aL, aL, aL, rfl, ps6, aR.call (by (repeat (first | assumption | exact aR.refl _ _ _ | (refine aR.put ?_ aB) | (refine aR.alloc ?_ _)))) hb5 fr6, by simp only; omega, hi, hA5⟩
 ·rw [List.drop_of_length_le (by omega), List.foldl_nil] at hA5
  subst hA5
  refine ⟨_, aM, ?_⟩
  exact hq _ b5 _ _ ps5 (aR.out fb5) hb5

theorem aAb {p b : Nat} {d k : Int} {acc : ByteArray} (ps : gI h p b d acc) (hk : 0 ≤ k ∧ k ≤ 1000000000000) (hl : (acc ++ fU k).size ≤ o5)
  (hq : kO p b d h (acc ++ fU k) Q) : aS Tryz.prog G X 98 [pV p, .int .i64 k] h Q := by
 have hp := ps.lt
 have hbl := ps.aY
 refine Wk Tryz.func98 Tryz.ntmps98 (w:=QV (Ma (w:=Ma (w:=MJ aO6 (w:=aS.ext (X := X) (o := aIi) (r := .ret (.string (fU k)) h) rfl (fun C => ?_) ?_)))))
 ·simp only [aIi]
  rw [if_pos ⟨hk.1, hk.2, rfl⟩]
  rfl
 refine My (w:=MJ bQ (w:=bH (b := b) (d := d) (acc := acc) (q := h.next) (ss := [fU k]) (by (repeat (first | assumption | (refine gI.put ?_ aB aB) | (refine gI.alloc ?_ _)))) aB aB aB aD (by simp) hl ?_))
 intro h6 b6 x6 v6 ps6 fr6 hb6
 have hn6 := fr6.1
 simp only [aA.aE, aA.aC] at hn6
 refine QL ?_
 refine ⟨_, aM, ?_⟩
 exact hq _ b6 _ _ ps6 (aR.out (aR.call (b := b) (by (repeat (first | assumption | exact aR.refl _ _ _ | (refine aR.put ?_ aB) | (refine aR.alloc ?_ _)))) (.inl rfl) fr6)) (by simp only [aA.aC] at hb6; omega)

theorem oB {o : dS} {j : Nat} {x : Option TypeId} (hj : j < h.next) (e : h.ty j = x) : (h.alloc o).ty j = x := by
 unfold aA.alloc
 show (if j = h.next then none else h.ty j) = x
 rw [if_neg (Nat.ne_of_lt hj)]
 exact e
theorem xJ {o : Option dS} {i j : Nat} {x : Option TypeId} (e : h.ty j = x) : (h.put i o).ty j = x := e
def jI (h h' : aA) : Prop := ∀ j, j < h.next → h'.ty j = h.ty j
theorem gI.grt {h h' : aA} {p b : Nat} {d : Int} {acc : ByteArray} (g : Gr h h') (k : jI h h') (ps : gI h p b d acc) : gI h' p b d acc :=
 ps.dC g.1 (g.2 p ps.lt) (g.2 b ps.aY.2) (k p ps.lt) (k b ps.aY.2)
theorem aR.gr {p b : Nat} {h h' h2 : aA} (g : Gr h' h2) (f : aR p b h h') : aR p b h h2 := ⟨Nat.le_trans f.1 g.1, fun j hj hp hb => (g.2 j (Nat.lt_of_lt_of_le hj f.1)).trans (f.2 j hj hp hb)⟩

theorem cS {t : Nd} {i : Nat} {S : Nat → Prop} {v : Option Addr} {m es : Nat} (hv : NV h S (aG t v m es) t) (hm : t.kids.length ≤ 1000000000) (hi : i ≤ 1000000000)
  (hq : ∀ h' v' m' es', Gr h h' → jI h h' → NV h' S (aG (aW t i) v' m' es') (aW t i) → Q (.ret (.agg (aG (aW t i) v' m' es').toArray) h')) : aS Tryz.prog G X 58 [.agg (aG t v m es).toArray, .int .i64 i] h Q := by
 have hlk := hv.nD
 subst hlk
 refine Wk Tryz.func58 Tryz.ntmps58 (w:=QN (Mx (w:=Mw (w:=QL (QU (QN (Ma (w:=Mj (w:=Mt (w:=Ms (w:=MF (w:=fun hh => QQ (QN (Mj (w:=Mt (w:=Ma (w:=QK ?_)))))) (v:=fun hh => QP (UA (QN (Mn (w:=Mv (w:=QM ?_)))))))))))))))))
 ·have hi' : i < t.kids.length := by omega
  obtain ⟨j, cells, rfl, hm2, rfl, hS, hj, hoj, hlc, hkids⟩ := hv.aM5 (by intro e; rw [e] at hi'; simp at hi')
  have hk := hkids i _ (List.getElem?_eq_getElem hi')
  obtain ⟨b', n', es', he⟩ := hk.cells
  rw [he] at hk
  have hkid : aW t i = t.kids[i] := by unfold aW; rw [List.getD_eq_getElem?_getD, List.getElem?_eq_getElem hi']; rfl
  rw [hkid] at hq
  refine WS.indexAddr (hk := ?_);refine QK ?_
  refine WS.pT (vs := aG t.kids[i] b' n' es') (hc := ?_) (hv' := ?_) (hk := ?_)
  (· omega); (· rw [show 0 + (i : Int).toNat * 7 = i * 7 by omega, he]; rfl)
  generalize t.kids[i] = u at *
  refine Mv (w:=QM ?_)
  refine ⟨_, aM, ?_⟩
  exact hq _ b' n' es' fG (by (intro j hj; repeat (first | rfl | (refine xJ ?_) | (refine oB aB ?_)))) (hk.mono aB fun x hx hlt => ⟨hx, bB⟩)
 ·rw [gA (by omega)] at hq
  skip
  refine ⟨_, aM, ?_⟩
  exact hq _ none 0 0 fG (by (intro j hj; repeat (first | rfl | (refine xJ ?_) | (refine oB aB ?_)))) (NV.leaf _ _ _ _ _ _)

def LV (h : aA) (S : Nat → Prop) (b : Option Addr) (n es : Nat) (l : List Nd) : Prop :=
 (b = none ∧ n = 0 ∧ es = 0 ∧ l = []) ∨ ∃ i off cells, b = some ⟨i, off, none⟩ ∧ n = l.length ∧ es = 7 ∧ S i ∧ i < h.next ∧ h.obj i = some (.cells false cells) ∧ off + l.length * 7 ≤ cells.length ∧ ∀ (k : Nat) t, l[k]? = some t → NV h S ((cells.drop (off + k * 7)).take 7) t
theorem LV.len {S : Nat → Prop} {b : Option Addr} {n es : Nat} {l : List Nd} (lv : LV h S b n es l) : n = l.length := by
 rcases lv with ⟨_, rfl, _, rfl⟩ | ⟨_, _, _, _, h1, _⟩
 ·rfl
 ·exact h1
theorem LV.mono {h h' : aA} {S S' : Nat → Prop} {b : Option Addr} {n es : Nat} {l : List Nd} (hn : h.next ≤ h'.next) (ho : ∀ j, S j → j < h.next → S' j ∧ h'.obj j = h.obj j) (lv : LV h S b n es l) : LV h' S' b n es l := by
 rcases lv with h1 | ⟨i, off, cells, h1, h2, h3, h4, h5, h6, h7, h8⟩
 ·exact .inl h1
 ·exact .inr ⟨i, off, cells, h1, h2, h3, (ho i h4 h5).1, by omega, (ho i h4 h5).2.trans h6, h7, fun k t hk => (h8 k t hk).mono hn ho⟩
theorem NV.lv {S : Nat → Prop} {t : Nd} {v : Option Addr} {m es : Nat} (hv : NV h S (aG t v m es) t) : LV h S v m es t.kids := by
 generalize hc : aG t v m es = vs at hv
 cases hv with
 | leaf kind text num pos cD ref =>
  simp only [aG, Nd.kind, Nd.text, Nd.num, Nd.pos, Nd.cD, Nd.ref, List.cons.injEq, Value.slice.injEq] at hc
  obtain ⟨_, _, _, _, _, _, ⟨rfl, rfl, rfl⟩, _⟩ := hc
  exact .inl ⟨rfl, rfl, rfl, rfl⟩
 | node kind text num pos cD ref kids i cells h1 h2 h3 h4 h5 =>
  simp only [aG, Nd.kind, Nd.text, Nd.num, Nd.pos, Nd.cD, Nd.ref, List.cons.injEq, Value.slice.injEq] at hc
  obtain ⟨_, _, _, _, _, _, ⟨rfl, rfl, rfl⟩, _⟩ := hc
  exact .inr ⟨i, 0, cells, rfl, rfl, rfl, h1, h2, h3, by rw [Nat.zero_add]; exact h4, fun k t hk => by rw [Nat.zero_add]; exact h5 k t hk⟩
theorem qL : Tryz.prog.underlying 23 = some (.slice 25) := by kernel_rfl
theorem LV.hi {S : Nat → Prop} {b : Option Addr} {n es k : Nat} {l : List Nd} (lv : LV h S b n es l) (hk : k ≤ l.length) : ∃ b' n' es', iB Tryz.prog 23 (.slice b n es) none (some (.int .i64 k)) = some (.slice b' n' es') ∧ LV h S b' n' es' (l.take k) := by
 have hz : dF Tryz.prog 25 = some 7 := fF rfl
 rcases lv with ⟨rfl, rfl, rfl, rfl⟩ | ⟨i, off, cells, rfl, rfl, rfl, h4, h5, h6, h7, h8⟩
 ·simp only [List.length_nil, Nat.le_zero_eq] at hk
  subst hk
  refine ⟨none, 0, 0, ?_, .inl ⟨rfl, rfl, rfl, by simp⟩⟩
  simp [iB, qL, jM, hz]
 ·refine ⟨some ⟨i, off, none⟩, k, 7, ?_, .inr ⟨i, off, cells, rfl, by rw [List.length_take]; omega, rfl, h4, h5, h6, by rw [List.length_take]; omega, fun j t hj => ?_⟩⟩
  ·simp [iB, qL, jM, hz, hk]
  ·rw [List.getElem?_take] at hj
   split at hj
   ·exact h8 j t hj
   ·cases hj
theorem LV.lo {S : Nat → Prop} {b : Option Addr} {n es k : Nat} {l : List Nd} (lv : LV h S b n es l) (hk : k ≤ l.length) : ∃ b' n' es', iB Tryz.prog 23 (.slice b n es) (some (.int .i64 k)) none = some (.slice b' n' es') ∧ LV h S b' n' es' (l.drop k) := by
 have hz : dF Tryz.prog 25 = some 7 := fF rfl
 rcases lv with ⟨rfl, rfl, rfl, rfl⟩ | ⟨i, off, cells, rfl, rfl, rfl, h4, h5, h6, h7, h8⟩
 ·simp only [List.length_nil, Nat.le_zero_eq] at hk
  subst hk
  refine ⟨none, 0, 0, ?_, .inl ⟨rfl, rfl, rfl, by simp⟩⟩
  simp [iB, qL, jM, hz]
 ·refine ⟨some ⟨i, off + k * 7, none⟩, l.length - k, 7, ?_, .inr ⟨i, off + k * 7, cells, rfl, by rw [List.length_drop], rfl, h4, h5, h6, by rw [List.length_drop]; omega, fun j t hj => ?_⟩⟩
  ·simp [iB, qL, jM, hz, hk]
  ·rw [List.getElem?_drop] at hj
   have := h8 (k + j) t hj
   rwa [show off + (k + j) * 7 = off + k * 7 + j * 7 by omega] at this

theorem rI {T : Nd → ByteArray → ByteArray} (hT : ∀ t X, X.size ≤ (T t X).size) {f : FuncId} (hen : ∀ vs, aQ Tryz.prog f vs = some (.enter f vs)) {fs cs : Array Value} {p b : Nat} {d : Int} {acc : ByteArray} {l : List Nd} {v : Option Addr} {m es : Nat} {h : aA} {Q : bR → Prop} {I : aA → Prop} (hI : ∀ h', aR p b h h' → I h')
  (hone : ∀ {x : Nd} {b' : Nat} {acc' : ByteArray} {h' : aA} {Q' : bR → Prop} {v m es}, x ∈ l → I h' → gI h' p b' d acc' → NV h' (fun j => j < p) (aG x v m es) x → (T x acc').size ≤ o5 → kO p b' d h' (T x acc') Q' → aS Tryz.prog G X f (fs.toList ++ [.agg (aG x v m es).toArray] ++ cs.toList) h' Q')
  (ps : gI h p b d acc) (lv : LV h (fun j => j < p) v m es l) (hll : l.length ≤ 1000000000) (hl : (fR T l acc).size ≤ o5) (hq : kO p b d h (fR T l acc) Q) : aS Tryz.prog G X 60 [pV p, .slice v m es, .func (.func f) fs cs] h Q := by
 have hp := ps.lt
 have hbl := ps.aY
 have hm := lv.len
 subst hm
 generalize hA : fR T l acc = A at *
 unfold fR at hA
 refine Wk Tryz.func60 Tryz.ntmps60 (w:=QN (Ma (w:=Ms (w:=Ma (w:=QL (Bk ?_))))))
 refine WC.cB hX (α := Nat × Nat × ByteArray) (m := fun a => l.length - a.1) (Inv := fun a e h' => e 0 = some (pV p) ∧ e 2 = some (.func (.func f) fs cs) ∧ e 8 = some (.slice v l.length es) ∧ e 9 = some (.int .i64 l.length) ∧ e 10 = some (.int .i64 a.1) ∧ gI h' p a.2.1 d a.2.2 ∧ aR p b h h' ∧ (a.2.1 = b ∨ h.next ≤ a.2.1) ∧ a.1 ≤ l.length ∧ kY T (decide (a.1 = 0)) (l.drop a.1) a.2.2 = A)
  (0, b, acc) ⟨rfl, rfl, rfl, rfl, rfl, ps, aR.refl _ _ _, .inl rfl, Nat.zero_le _, hA⟩ ?_
 rintro ⟨i, b5, acc5⟩ env h5 ih ⟨e0, e2, e8, e9, e10, ps5, fb5, hb5, hi5, hA5⟩
 simp only at e10 ps5 hb5 hi5 hA5
 have hn5 := fb5.1
 have hbl5 := ps5.aY
 have lv5 : LV h5 (fun j => j < p) v l.length es l := lv.mono hn5 fun j hj hlt => ⟨hj, fb5.2 j hlt (by omega) (by omega)⟩
 refine QN (MF (w:=fun hh => QL (QU (QR (UA (QU (Bk (QN (Ma (w:=QK ?_))))))))) (v:=fun hh => QL (QU (QS (WC.exit (aH ?_))))))
 ·have hi : i < l.length := by omega
  rw [List.drop_eq_getElem_cons hi] at hA5
  unfold kY at hA5
  have hmem : l[i] ∈ l := List.getElem_mem hi
  rcases lv5 with ⟨_, _, _, hnil⟩ | ⟨k, off, cells, rfl, _, rfl, h4, h5k, h6, h7, h8⟩
  ·rw [hnil] at hi; simp at hi
  have hvi := h8 i _ (List.getElem?_eq_getElem hi)
  obtain ⟨bi, ni, esi, hei⟩ := hvi.cells
  rw [hei] at hvi
  refine WS.indexAddr (hk := ?_);refine QK ?_
  refine WS.pT (vs := aG l[i] bi ni esi) (hc := ?_) (hv' := ?_) (hk := ?_)
  (· omega); (· rw [show off + (i : Int).toNat * 7 = off + i * 7 by omega, hei]; rfl)
  generalize l[i] = u at *
  refine Mw (w:=Mb (w:=Mv (w:=QL (QU (QN (Ma (w:=MH (w:=fun hh => QQ (QV (Ma (w:=My (w:=QK ?_))))) (v:=fun hh => QP (UA (QV (Ma (w:=Mu (w:=QK ?_)))))))))))))
  ·have hi0 : ¬ i = 0 := by omega
   simp only [hi0, decide_false, Bool.false_eq_true, if_false] at hA5
   refine QJ bQ ?_
   refine bH (b := b5) (d := d) (acc := acc5) (q := h5.next + 1) (ss := [(⟨#[44, 32]⟩ :ByteArray)]) (by (repeat (first | assumption | (refine gI.put ?_ aB aB) | (refine gI.alloc ?_ _)))) aB aB aB aD (by simp) ?_ ?_
   ·refine Nat.le_trans ?_ hl
    rw [← hA5]
    exact Nat.le_trans (hT u _) (wS hT _ _ _)
   intro h6 b6 x6 v6 ps6 fr6 hb6
   have hn6 := fr6.1
   simp only [aA.aE, aA.aC] at hn6 hb6
   have fb6 : aR p b h h6 := aR.call (b1 := b5) (by (repeat (first | assumption | exact aR.refl _ _ _ | (refine aR.put ?_ aB) | (refine aR.alloc ?_ _)))) hb5 fr6
   have hu6 : h6.obj h5.next = some (.cells false (aG u bi ni esi)) := aD
   have hvu : NV h6 (fun j => j < p) (aG u bi ni esi) u := hvi.mono aB fun j hj hlt => ⟨hj, bB⟩
   refine QL (QV (Ma (w:=Mu (w:=QK ?_))))
   apply WS.uD
   (· rfl); (· rfl); (· exact aL); (· rfl); (· rfl); (· exact hen)
   refine hone (x := u) hmem (hI _ fb6) ps6 hvu ?_ ?_
   ·refine Nat.le_trans ?_ hl
    rw [← hA5]
    exact wS hT _ _ _
   intro h7' b7 x7 v7 ps7 fr7 hb7
   have hn7 := fr7.1
   simp only [aA.aE] at hn7
   refine QL (QV (Mf (w:=Ma (w:=QL ?_))))
   exact ih (i + 1, b7, T u (acc5 ++ (⟨#[44, 32]⟩ :ByteArray))) _ _ (by simp only; omega) ⟨aL, aL, aL, aL, rfl, ps7, aR.call fb6 (by omega) fr7, by simp only; omega, hi, by simpa using hA5⟩
  ·have hi0 : i = 0 := by omega
   subst hi0
   simp only [decide_true, if_true] at hA5
   apply WS.uD
   (· rfl); (· rfl); (· exact aL); (· rfl); (· rfl); (· exact hen)
   refine hone (x := u) (b' := b5) (acc' := acc5) hmem (hI _ (by (repeat (first | assumption | exact aR.refl _ _ _ | (refine aR.put ?_ aB) | (refine aR.alloc ?_ _))))) (by (repeat (first | assumption | (refine gI.put ?_ aB aB) | (refine gI.alloc ?_ _)))) (hvi.mono aB fun j hj hlt => ⟨hj, bB⟩) ?_ ?_
   ·refine Nat.le_trans ?_ hl
    rw [← hA5]
    exact wS hT _ _ _
   intro h7' b7 x7 v7 ps7 fr7 hb7
   have hn7 := fr7.1
   simp only [aA.aE, aA.aC] at hn7 hb7
   refine QL (QV (Mf (w:=Ma (w:=QL ?_))))
   exact ih (0 + 1, b7, T u acc5) _ _ (by simp only; omega) ⟨aL, aL, aL, aL, rfl, ps7, aR.call (b1 := b5) (by (repeat (first | assumption | exact aR.refl _ _ _ | (refine aR.put ?_ aB) | (refine aR.alloc ?_ _)))) hb5 fr7, by simp only; omega, hi, by simpa using hA5⟩
 ·rw [List.drop_of_length_le (by omega)] at hA5
  unfold kY at hA5
  subst hA5
  refine ⟨_, aM, ?_⟩
  exact hq _ b5 _ _ ps5 (aR.out fb5) hb5

theorem aP {p : Prop} (h : p := by (repeat (first | assumption | (refine gI.put ?_ aB aB) | (refine gI.alloc ?_ _) | (refine gI.grt (by assumption) (by assumption) ?_)))) : p := h
theorem aO {p : Prop} (h : p := by (repeat (first | assumption | exact aR.refl _ _ _ | (refine aR.put ?_ aB) | (refine aR.alloc ?_ _) | (refine aR.gr (by assumption) ?_)))) : p := h
theorem bI {p : Prop} (h : p := by ((try simp only [List.foldl_cons, List.foldl_nil]); refine Nat.le_trans ?_ hl; (repeat' (with_reducible first | exact Nat.le_refl _ | refine Nat.le_trans ?_ (c.m.cD _ _) | refine Nat.le_trans ?_ (c.m.expr _ _ _) | refine Nat.le_trans ?_ (c.m.stmt _ _ _) | refine Nat.le_trans ?_ (vH c.m _ _ _) | refine Nat.le_trans ?_ (kT c.m _ _ _) | refine Nat.le_trans ?_ (aDb c.m _ _ _) | refine Nat.le_trans ?_ (vI c.m _ _ _) | refine Nat.le_trans ?_ (jS c.m.cD _ _) | refine Nat.le_trans ?_ (jS (c.m.expr _) _ _) | refine Nat.le_trans ?_ (jS (oJ c.m) _ _) | refine Nat.le_trans ?_ (jS (zO c.m _) _ _) | refine Nat.le_trans ?_ (wT (c.m.expr _) _ _) | refine Nat.le_trans ?_ (wT (c.m.stmt _) _ _) | refine Nat.le_trans ?_ (aDc (c.m.expr _) _ _ _) | refine Nat.le_trans ?_ (cZ _ _) | refine lI ?_ ?_)))) : p := h
def CT (f : FuncId) (n : Nat) (T : Nd → ByteArray → ByteArray) : Prop := ∀ {t : Nd} {p b : Nat} {d : Int} {acc : ByteArray} {v : Option Addr} {m es : Nat} {h : aA} {Q : bR → Prop}, (Ft t ∧ jH t ≤ 1000000 ∧ Fu n t) → gI h p b d acc → NV h (fun j => j < p) (aG t v m es) t → (T t acc).size ≤ o5 → kO p b d h (T t acc) Q → aS Tryz.prog G X f [pV p, .agg (aG t v m es).toArray] h Q
def CE (f : FuncId) (n : Nat) (T : Int → Nd → ByteArray → ByteArray) : Prop := ∀ {t : Nd} {p b : Nat} {d : Int} {acc : ByteArray} {v : Option Addr} {m es : Nat} {h : aA} {Q : bR → Prop}, (0 ≤ d ∧ d + n ≤ 1000000) → (Ft t ∧ jH t ≤ 1000000 ∧ Fu n t) → gI h p b d acc → NV h (fun j => j < p) (aG t v m es) t → (T d t acc).size ≤ o5 → kO p b d h (T d t acc) Q → aS Tryz.prog G X f [pV p, .agg (aG t v m es).toArray] h Q
structure CPr (n : Nat) (r : Pr) : Prop where
 m : RecM r
 cD : CT 78 n r.cD
 expr : CE 29 n r.expr
 stmt : CE 123 n r.stmt
structure Wr (n : Nat) (t : Nd) : Prop where
 ft : Ft t
 wt : jH t ≤ 1000000
 fu : Fu (n + 1) t
theorem sB (t : Nd) (i : Nat) (h : jH t ≤ 1000000) : jH (aW t i) ≤ 1000000 := by
 by_cases hi : i < t.kids.length
 ·have := mO hi; omega
 ·rw [gA hi]; decide
theorem Wr.eF {n : Nat} {t : Nd} (w : Wr n t) (hk : t.kind ≠ 0) (i : Nat) : Ft (aW t i) ∧ jH (aW t i) ≤ 1000000 ∧ Fu n (aW t i) := ⟨w.ft.eF i, sB t i w.wt, w.fu.eF hk i⟩
theorem Wr.mem {n : Nat} {t u : Nd} (w : Wr n t) (hk : t.kind ≠ 0) (hu : u ∈ t.kids) : Ft u ∧ jH u ≤ 1000000 ∧ Fu n u := ⟨w.ft.kids u hu, by have := qO hu; have := w.wt; have := mC t; omega, w.fu.mem hk hu⟩
theorem Wr.len {n : Nat} {t : Nd} (w : Wr n t) : t.kids.length ≤ 1000000 := by
 have := aAe t.kids
 have := w.wt
 have := mC t
 omega

structure Wks (n : Nat) (t : Nd) : Prop where
 ft : Ft t
 wt : jH t ≤ 1000000
 lt : jH t < n
theorem Wks.x {n : Nat} {t : Nd} (w : Wks n t) : Ft t ∧ jH t ≤ 1000000 ∧ Fu n t := ⟨w.ft, w.wt, .of w.lt⟩
theorem Wks.eF {n : Nat} {t : Nd} (w : Wks (n + 1) t) (i : Nat) : Ft (aW t i) ∧ jH (aW t i) ≤ 1000000 ∧ Fu n (aW t i) := by
 refine ⟨w.ft.eF i, sB t i w.wt, ?_⟩
 have := w.lt
 have := oU t
 by_cases hi : i < t.kids.length
 ·have := mO hi
  exact .of (by omega)
 ·rw [gA hi]; exact .zero (by omega)
theorem Wks.mem {n : Nat} {t u : Nd} (w : Wks (n + 1) t) (hu : u ∈ t.kids) : Wks n u := by
 have h1 := qO hu
 have h2 := w.wt
 have h3 := w.lt
 have h4 := mC t
 exact ⟨w.ft.kids u hu, by omega, by omega⟩
theorem Wks.up {n : Nat} {t : Nd} (w : Wks n t) : Wks (n + 1) t := ⟨w.ft, w.wt, by have := w.lt; omega⟩
theorem Wks.yC {n i : Nat} {t u : Nd} (w : Wks (n + 1) t) (hu : u ∈ (aW t i).kids) : Wks n u := by
 by_cases hi : i < t.kids.length
 ·exact ((w.mem (aEg hi)).up.mem hu)
 ·rw [gA hi] at hu; cases hu
theorem Wks.len {n : Nat} {t : Nd} (w : Wks n t) : t.kids.length ≤ 1000000 := by
 have := aAe t.kids
 have := w.wt
 have := mC t
 omega
theorem Wks.tK {n i : Nat} {t : Nd} (w : Wks n t) : (aW t i).kids.length ≤ 1000000 := by
 have := aAe (aW t i).kids
 have := sB t i w.wt
 have := mC (aW t i)
 omega
theorem Wr.k {n : Nat} {t : Nd} (w : Wr n t) (hk : t.kind ≠ 0) : Wks (n + 1) t := ⟨w.ft, w.wt, w.fu.2 hk⟩

theorem aN6 {n : Nat} {r : Pr} (c : CPr n r) : CT 78 (n + 1) (xK r) := by
 intro t p b d acc v m es h Q ⟨hft, hwt, hfu⟩ ps hv hl hq
 have w : Wr n t := ⟨hft, hwt, hfu⟩
 have hlen := w.len
 have hmk := hv.nD
 subst hmk
 have hp := ps.lt
 have hbl := ps.aY
 unfold xK at hl hq
 refine Wk Tryz.func78 Tryz.ntmps78 (w:=?_)
 refine QN (Mx (w:=QO (Mj (w:=Mt (w:=QL (Bk (QN (MD (w:=fun hh => Mb (w:=QQ (QV (Ma (w:=My (w:=QK ?_)))))) (v:=fun hh => Mb (w:=QP (QN (MD (w:=fun hh => Mb (w:=QQ (QV (Ma (w:=My (w:=QK ?_)))))) (v:=fun hh => Mb (w:=QP (QN (MD (w:=fun hh => Mb (w:=QQ (QV (Ma (w:=My (w:=QK ?_)))))) (v:=fun hh => Mb (w:=QP (QN (MD (w:=fun hh => Mb (w:=QQ (QV (Ma (w:=Mj (w:=Mt (w:=My (w:=QK ?_)))))))) (v:=fun hh => Mb (w:=QP (QN (MD (w:=fun hh => Mb (w:=QQ (QN (Ma (w:=My (w:=QK ?_)))))) (v:=fun hh => Mb (w:=QP (QN (MD (w:=fun hh => Mb (w:=QQ (QN (Ma (w:=My (w:=QK ?_)))))) (v:=fun hh => Mb (w:=QP (QN (MD (w:=fun hh => Mb (w:=QQ (QN (Mj (w:=Mt (w:=Ms (w:=Mg (w:=?_)))))))) (v:=?_)))))))))))))))))))))))))))))))));rotate_left 6;refine QK (WS.max (hk := ?_));refine Mb (w:=QO (Ma (w:=My (w:=QK ?_))));rotate_left;intro hh;refine Mb (w:=QP (QV (Ma (w:=My (w:=QK ?_)))));rotate_left
 ·simp only [hh, Int.reduceEq, if_false, if_true] at hl hq
  refine QJ bQ ?_
  refine bH (b := b) (d := d) (acc := acc) (ss := [(⟨#[105, 110, 116]⟩ :ByteArray)]) aP aB aB aB aD (by simp) bI ?_
  intro h1 b1 x1 v1 ps1 fr1 hb1
  have hn1 := fr1.1
  (try simp only [aA.aE, aA.aC] at hn1 hb1)
  have fb1 : aR p b h h1 := aR.call (b1 := b) aO (by omega) fr1
  have hbl1 := ps1.aY
  simp only [List.foldl_cons, List.foldl_nil] at ps1
  generalize acc ++ (⟨#[105, 110, 116]⟩ :ByteArray) = acc1 at ps1 hq hl
  refine QL ?_
  refine ⟨_, aM, ?_⟩
  exact hq _ b1 _ _ ps1 (aR.out fb1) (by omega)
 ·simp only [hh, Int.reduceEq, if_false, if_true] at hl hq
  refine QJ bQ ?_
  refine bH (b := b) (d := d) (acc := acc) (ss := [(⟨#[98, 111, 111, 108]⟩ :ByteArray)]) aP aB aB aB aD (by simp) bI ?_
  intro h1 b1 x1 v1 ps1 fr1 hb1
  have hn1 := fr1.1
  (try simp only [aA.aE, aA.aC] at hn1 hb1)
  have fb1 : aR p b h h1 := aR.call (b1 := b) aO (by omega) fr1
  have hbl1 := ps1.aY
  simp only [List.foldl_cons, List.foldl_nil] at ps1
  generalize acc ++ (⟨#[98, 111, 111, 108]⟩ :ByteArray) = acc1 at ps1 hq hl
  refine QL ?_
  refine ⟨_, aM, ?_⟩
  exact hq _ b1 _ _ ps1 (aR.out fb1) (by omega)
 ·simp only [hh, Int.reduceEq, if_false, if_true] at hl hq
  refine QJ bQ ?_
  refine bH (b := b) (d := d) (acc := acc) (ss := [(⟨#[115, 116, 114, 105, 110, 103]⟩ :ByteArray)]) aP aB aB aB aD (by simp) bI ?_
  intro h1 b1 x1 v1 ps1 fr1 hb1
  have hn1 := fr1.1
  (try simp only [aA.aE, aA.aC] at hn1 hb1)
  have fb1 : aR p b h h1 := aR.call (b1 := b) aO (by omega) fr1
  have hbl1 := ps1.aY
  simp only [List.foldl_cons, List.foldl_nil] at ps1
  generalize acc ++ (⟨#[115, 116, 114, 105, 110, 103]⟩ :ByteArray) = acc1 at ps1 hq hl
  refine QL ?_
  refine ⟨_, aM, ?_⟩
  exact hq _ b1 _ _ ps1 (aR.out fb1) (by omega)
 ·simp only [hh, Int.reduceEq, if_false, if_true] at hl hq
  refine QJ bQ ?_
  refine bH (b := b) (d := d) (acc := acc) (ss := [(⟨#[42]⟩ :ByteArray), t.text]) aP aB aB aB aD (by simp) bI ?_
  intro h1 b1 x1 v1 ps1 fr1 hb1
  have hn1 := fr1.1
  (try simp only [aA.aE, aA.aC] at hn1 hb1)
  have fb1 : aR p b h h1 := aR.call (b1 := b) aO (by omega) fr1
  have hbl1 := ps1.aY
  simp only [List.foldl_cons, List.foldl_nil] at ps1
  generalize acc ++ (⟨#[42]⟩ :ByteArray) ++ t.text = acc1 at ps1 hq hl
  refine QL ?_
  refine ⟨_, aM, ?_⟩
  exact hq _ b1 _ _ ps1 (aR.out fb1) (by omega)
 ·simp only [hh, Int.reduceEq, if_false, if_true] at hl hq
  refine QJ bQ ?_
  refine bH (b := b) (d := d) (acc := acc) (ss := [(⟨#[91, 93]⟩ :ByteArray)]) aP aB aB aB aD (by simp) bI ?_
  intro h1 b1 x1 v1 ps1 fr1 hb1
  have hn1 := fr1.1
  (try simp only [aA.aE, aA.aC] at hn1 hb1)
  have fb1 : aR p b h h1 := aR.call (b1 := b) aO (by omega) fr1
  have hbl1 := ps1.aY
  simp only [List.foldl_cons, List.foldl_nil] at ps1
  generalize acc ++ (⟨#[91, 93]⟩ :ByteArray) = acc1 at ps1 hq hl
  refine QL (QV (Ma (w:=Mu (w:=MJ eH (w:=cS (t := t) (i := 0) (hv.mono aB (fun j hj hlt => ⟨hj, bB⟩)) (by omega) (by omega) fun h2 v2 m2 e2 g2 k2 nv2 => ?_)))))
  have hn2 := g2.1
  (try simp only [aA.aE, aA.aC] at hn2)
  refine MJ aA1 (w:=c.cD (t := aW t 0) (b := b1) (d := d) (acc := acc1) (w.eF (by omega) 0) aP (nv2.mono aB (fun j hj hlt => ⟨hj, bB⟩)) bI ?_)
  intro h3 b3 x3 v3 ps3 fr3 hb3
  have hn3 := fr3.1
  (try simp only [aA.aE, aA.aC] at hn3 hb3)
  have fb3 : aR p b h h3 := aR.call (b1 := b1) aO (by omega) fr3
  have hbl3 := ps3.aY
  generalize r.cD (aW t 0) acc1 = acc3 at ps3 hq hl
  refine QL ?_
  refine ⟨_, aM, ?_⟩
  exact hq _ b3 _ _ ps3 (aR.out fb3) (by omega)
 ·simp only [hh, Int.reduceEq, if_false, if_true] at hl hq
  refine QJ bQ ?_
  refine bH (b := b) (d := d) (acc := acc) (ss := [(⟨#[99, 104, 97, 110, 32]⟩ :ByteArray)]) aP aB aB aB aD (by simp) bI ?_
  intro h1 b1 x1 v1 ps1 fr1 hb1
  have hn1 := fr1.1
  (try simp only [aA.aE, aA.aC] at hn1 hb1)
  have fb1 : aR p b h h1 := aR.call (b1 := b) aO (by omega) fr1
  have hbl1 := ps1.aY
  simp only [List.foldl_cons, List.foldl_nil] at ps1
  generalize acc ++ (⟨#[99, 104, 97, 110, 32]⟩ :ByteArray) = acc1 at ps1 hq hl
  refine QL (QV (Ma (w:=Mu (w:=MJ eH (w:=cS (t := t) (i := 0) (hv.mono aB (fun j hj hlt => ⟨hj, bB⟩)) (by omega) (by omega) fun h2 v2 m2 e2 g2 k2 nv2 => ?_)))))
  have hn2 := g2.1
  (try simp only [aA.aE, aA.aC] at hn2)
  refine MJ aA1 (w:=c.cD (t := aW t 0) (b := b1) (d := d) (acc := acc1) (w.eF (by omega) 0) aP (nv2.mono aB (fun j hj hlt => ⟨hj, bB⟩)) bI ?_)
  intro h3 b3 x3 v3 ps3 fr3 hb3
  have hn3 := fr3.1
  (try simp only [aA.aE, aA.aC] at hn3 hb3)
  have fb3 : aR p b h h3 := aR.call (b1 := b1) aO (by omega) fr3
  have hbl3 := ps3.aY
  generalize r.cD (aW t 0) acc1 = acc3 at ps3 hq hl
  refine QL ?_
  refine ⟨_, aM, ?_⟩
  exact hq _ b3 _ _ ps3 (aR.out fb3) (by omega)
 ·simp only [hh, Int.reduceEq, if_false, if_true] at hl hq
  have hw0 : t.kind ≠ 0 := by omega
  generalize hL : t.kids.length - 1 = last at hl hq
  have hlast : last ≤ 1000000 := by omega
  have hmx : (if (t.kids.length : Int) - 1 > 0 then (t.kids.length : Int) - 1 else 0) = (last : Int) := by split <;> omega
  simp only [hmx]
  refine QJ bQ ?_
  refine bH (b := b) (d := d) (acc := acc) (ss := [(⟨#[102, 117, 110, 99, 40]⟩ :ByteArray)]) aP aB aB aB aD (by simp) bI ?_
  intro h1 b1 x1 v1 ps1 fr1 hb1
  have hn1 := fr1.1
  (try simp only [aA.aE, aA.aC] at hn1 hb1)
  have fb1 : aR p b h h1 := aR.call (b1 := b) aO (by omega) fr1
  have hbl1 := ps1.aY
  simp only [List.foldl_cons, List.foldl_nil] at ps1
  generalize acc ++ (⟨#[102, 117, 110, 99, 40]⟩ :ByteArray) = acc1 at ps1 hq hl
  refine QO (Ma (w:=Mj (w:=Mt (w:=Ma (w:=QK ?_)))))
  have nv1 : NV h1 (fun j => j < p) (aG t v t.kids.length es) t := hv.mono aB (fun j hj hlt => ⟨hj, bB⟩)
  obtain ⟨vs2, ms2, es2, hsl, lv2⟩ := nv1.lv.hi (k := last) (by omega)
  apply WS.slice
  (· rfl); (· rfl); (· exact aL); (· rfl); (· rfl); (· exact hsl)
  refine Ma (w:=Mp (w:=MJ aCx (w:=?_)))
  refine rI (T := r.cD) (c.m.cD) (I := fun _ => True) aA1 (b := b1) (d := d) (acc := acc1) (fun _ _ => trivial) (fun hx _ ps' hv' hl' hq' => c.cD (w.mem hw0 (List.mem_of_mem_take hx)) ps' hv' hl' hq') aP (lv2.mono aB (fun j hj hlt => ⟨hj, bB⟩)) (by (try simp only [List.length_take, List.length_drop]); omega) bI ?_
  intro h3 b3 x3 v3 ps3 fr3 hb3
  have hn3 := fr3.1
  (try simp only [aA.aE, aA.aC] at hn3 hb3)
  have fb3 : aR p b h h3 := aR.call (b1 := b1) aO (by omega) fr3
  have hbl3 := ps3.aY
  generalize fR r.cD (t.kids.take last) acc1 = acc3 at ps3 hq hl
  refine QO (Ma (w:=My (w:=MJ bQ (w:=bH (b := b3) (d := d) (acc := acc3) (ss := [(⟨#[41]⟩ :ByteArray)]) aP aB aB aB aD (by simp) bI ?_))))
  intro h4 b4 x4 v4 ps4 fr4 hb4
  have hn4 := fr4.1
  (try simp only [aA.aE, aA.aC] at hn4 hb4)
  have fb4 : aR p b h h4 := aR.call (b1 := b3) aO (by omega) fr4
  have hbl4 := ps4.aY
  simp only [List.foldl_cons, List.foldl_nil] at ps4
  generalize acc3 ++ (⟨#[41]⟩ :ByteArray) = acc4 at ps4 hq hl
  refine QO (Mu (w:=Ma (w:=MJ eH (w:=cS (t := t) (i := last) (hv.mono aB (fun j hj hlt => ⟨hj, bB⟩)) (by omega) (by omega) fun h5 v5 m5 e5 g5 k5 nv5 => ?_))))
  have hn5 := g5.1
  (try simp only [aA.aE, aA.aC] at hn5)
  refine Mw (w:=Mv (w:=QO (Mj (w:=Mt (w:=ME (w:=fun hh => QQ (QN (Ma (w:=My (w:=QK ?_))))) (v:=fun hh => QP (UA ?_)))))))
  ·rw [if_neg (by assumption)] at hl hq
   refine QJ bQ ?_
   refine bH (b := b4) (d := d) (acc := acc4) (ss := [(⟨#[32]⟩ :ByteArray)]) aP aB aB aB aD (by simp) bI ?_
   intro h6 b6 x6 v6 ps6 fr6 hb6
   have hn6 := fr6.1
   (try simp only [aA.aE, aA.aC] at hn6 hb6)
   have fb6 : aR p b h h6 := aR.call (b1 := b4) aO (by omega) fr6
   have hbl6 := ps6.aY
   simp only [List.foldl_cons, List.foldl_nil] at ps6
   generalize acc4 ++ (⟨#[32]⟩ :ByteArray) = acc6 at ps6 hq hl
   refine QL (QV (Ma (w:=Mu (w:=MJ aA1 (w:=c.cD (t := aW t last) (b := b6) (d := d) (acc := acc6) (w.eF (by omega) last) aP (nv5.mono aB (fun j hj hlt => ⟨hj, bB⟩)) bI ?_)))))
   intro h7 b7 x7 v7 ps7 fr7 hb7
   have hn7 := fr7.1
   (try simp only [aA.aE, aA.aC] at hn7 hb7)
   have fb7 : aR p b h h7 := aR.call (b1 := b6) aO (by omega) fr7
   have hbl7 := ps7.aY
   generalize r.cD (aW t last) acc6 = acc7 at ps7 hq hl
   refine QL ?_
   refine ⟨_, aM, ?_⟩
   exact hq _ b7 _ _ ps7 (aR.out fb7) (by omega)
  ·rw [if_pos (by omega)] at hl hq
   refine ⟨_, aM, ?_⟩
   exact hq _ b4 _ _ aP (aR.out aO) (by omega)
 ·simp only [‹¬ t.kind = 9›, ‹¬ t.kind = 10›, ‹¬ t.kind = 11›, ‹¬ t.kind = 12›, ‹¬ t.kind = 13›, ‹¬ t.kind = 14›, ‹¬ t.kind = 15›, if_false] at hl hq
  refine QJ bQ ?_
  refine bH (b := b) (d := d) (acc := acc) (ss := [(⟨#[63]⟩ :ByteArray)]) aP aB aB aB aD (by simp) bI ?_
  intro h1 b1 x1 v1 ps1 fr1 hb1
  have hn1 := fr1.1
  (try simp only [aA.aE, aA.aC] at hn1 hb1)
  have fb1 : aR p b h h1 := aR.call (b1 := b) aO (by omega) fr1
  have hbl1 := ps1.aY
  simp only [List.foldl_cons, List.foldl_nil] at ps1
  generalize acc ++ (⟨#[63]⟩ :ByteArray) = acc1 at ps1 hq hl
  refine QL ?_
  refine ⟨_, aM, ?_⟩
  exact hq _ b1 _ _ ps1 (aR.out fb1) (by omega)

section
variable {n : Nat} {r : Pr} {t : Nd} {p b : Nat} {d : Int} {acc : ByteArray} {v : Option Addr} {m es : Nat} {h : aA} {Q : bR → Prop}

theorem sG (c : CPr n r) (w : Wks (n + 1) t) (ps : gI h p b d acc) (hv : NV h (fun j => j < p) (aG t v m es) t) (hl : (eJ r t acc).size ≤ o5) (hq : kO p b d h (eJ r t acc) Q) : aS Tryz.prog G X 43 [pV p, .agg (aG t v m es).toArray] h Q := by
 have hlen := w.len
 have hmk := hv.nD
 subst hmk
 have hp := ps.lt
 have hbl := ps.aY
 unfold eJ at hl hq
 refine Wk Tryz.func43 Tryz.ntmps43 (w:=QN (Mx (w:=QO (Ma (w:=Mj (w:=Mt (w:=My (w:=MJ bQ (w:=bH (b := b) (d := d) (acc := acc) (ss := [t.text, (⟨#[32]⟩ :ByteArray)]) aP aB aB aB aD (by simp) bI ?_)))))))))
 intro h1 b1 x1 v1 ps1 fr1 hb1
 have hn1 := fr1.1
 (try simp only [aA.aE, aA.aC] at hn1 hb1)
 have fb1 : aR p b h h1 := aR.call (b1 := b) aO (by omega) fr1
 have hbl1 := ps1.aY
 simp only [List.foldl_cons, List.foldl_nil] at ps1
 generalize acc ++ t.text ++ (⟨#[32]⟩ :ByteArray) = acc1 at ps1 hq hl
 refine QL (QV (Ma (w:=Mu (w:=MJ eH (w:=cS (t := t) (i := 0) (hv.mono aB (fun j hj hlt => ⟨hj, bB⟩)) (by omega) (by omega) fun h2 v2 m2 e2 g2 k2 nv2 => ?_)))))
 have hn2 := g2.1
 (try simp only [aA.aE, aA.aC] at hn2)
 refine MJ aA1 (w:=c.cD (t := aW t 0) (b := b1) (d := d) (acc := acc1) (w.eF 0) aP (nv2.mono aB (fun j hj hlt => ⟨hj, bB⟩)) bI ?_)
 intro h3 b3 x3 v3 ps3 fr3 hb3
 have hn3 := fr3.1
 (try simp only [aA.aE, aA.aC] at hn3 hb3)
 have fb3 : aR p b h h3 := aR.call (b1 := b1) aO (by omega) fr3
 have hbl3 := ps3.aY
 generalize r.cD (aW t 0) acc1 = acc3 at ps3 hq hl
 refine QL ?_
 refine ⟨_, aM, ?_⟩
 exact hq _ b3 _ _ ps3 (aR.out fb3) (by omega)

theorem mR {T : Nd → ByteArray → ByteArray} {f : FuncId} (hen : ∀ vs, aQ Tryz.prog f vs = some (.enter f vs)) {fs cs : Array Value}
  (hone : ∀ {b' : Nat} {acc' : ByteArray} {h' : aA} {Q' : bR → Prop} {v m es}, gI h' p b' d acc' → NV h' (fun j => j < p) (aG t v m es) t → (T t acc').size ≤ o5 → kO p b' d h' (T t acc') Q' → aS Tryz.prog G X f (fs.toList ++ [.agg (aG t v m es).toArray] ++ cs.toList) h' Q')
  (ps : gI h p b d acc) (hv : NV h (fun j => j < p) (aG t v m es) t) (hl : (hJ T t acc).size ≤ o5) (hq : kO p b d h (hJ T t acc) Q) : aS Tryz.prog G X 62 [pV p, .agg (aG t v m es).toArray, .func (.func f) fs cs] h Q := by
 have hmk := hv.nD
 subst hmk
 have hp := ps.lt
 have hbl := ps.aY
 unfold hJ at hl hq
 refine Wk Tryz.func62 Tryz.ntmps62 (w:=QN (Mx (w:=QO (Mj (w:=Mt (w:=ME (w:=fun hh => QQ (QV (Ma (w:=Mu (w:=QK ?_))))) (v:=fun hh => QP (UA ?_))))))))
 ·rw [if_neg (by assumption)] at hl hq
  apply WS.uD
  (· rfl); (· rfl); (· exact aL); (· rfl); (· rfl); (· exact hen)
  refine hone (b' := b) (acc' := acc) aP (hv.mono aB (fun j hj hlt => ⟨hj, bB⟩)) hl ?_
  intro h1 b1 x1 v1 ps1 fr1 hb1
  have hn1 := fr1.1
  simp only [aA.aE, aA.aC] at hn1 hb1
  have fb1 : aR p b h h1 := aR.call (b1 := b) aO (by omega) fr1
  refine QL ?_
  refine ⟨_, aM, ?_⟩
  exact hq _ b1 _ _ ps1 (aR.out fb1) (by omega)
 ·rw [if_pos (by omega)] at hl hq
  refine ⟨_, aM, ?_⟩
  exact hq _ b _ _ aP (aR.out aO) (.inl rfl)

theorem aE0 {T : Nd → ByteArray → ByteArray} (hT : ∀ t X, X.size ≤ (T t X).size) {f : FuncId} (hen : ∀ vs, aQ Tryz.prog f vs = some (.enter f vs)) {fs cs : Array Value} {s : ByteArray}
  (hone : ∀ {b' : Nat} {acc' : ByteArray} {h' : aA} {Q' : bR → Prop} {v m es}, gI h' p b' d acc' → NV h' (fun j => j < p) (aG t v m es) t → (T t acc').size ≤ o5 → kO p b' d h' (T t acc') Q' → aS Tryz.prog G X f (fs.toList ++ [.agg (aG t v m es).toArray] ++ cs.toList) h' Q')
  (ps : gI h p b d acc) (hv : NV h (fun j => j < p) (aG t v m es) t) (hl : (mT T s t acc).size ≤ o5) (hq : kO p b d h (mT T s t acc) Q) : aS Tryz.prog G X 179 [pV p, .string s, .agg (aG t v m es).toArray, .func (.func f) fs cs] h Q := by
 have hmk := hv.nD
 subst hmk
 have hp := ps.lt
 have hbl := ps.aY
 unfold mT at hl hq
 refine Wk Tryz.func179 Tryz.ntmps179 (w:=QN (Mx (w:=QO (Ma (w:=Ma (w:=My (w:=MJ bQ (w:=bH (b := b) (d := d) (acc := acc) (ss := [s]) aP aB aB aB aD (by simp) ?_ ?_))))))))
 ·refine Nat.le_trans ?_ hl
  refine lI (Nat.le_refl _) (Nat.le_trans (cZ _ _) (hT _ _))
 intro h1 b1 x1 v1 ps1 fr1 hb1
 have hn1 := fr1.1
 simp only [aA.aE, aA.aC] at hn1 hb1
 have fb1 : aR p b h h1 := aR.call (b1 := b) aO (by omega) fr1
 have hbl1 := ps1.aY
 simp only [List.foldl_cons, List.foldl_nil] at ps1
 generalize acc ++ s = acc1 at ps1 hq hl
 refine QO (Mj (w:=Mt (w:=ME (w:=fun hh => QQ (QN (Ma (w:=My (w:=QK ?_))))) (v:=fun hh => QP (UA ?_)))))
 ·rw [if_neg (by assumption)] at hl hq
  refine QJ bQ ?_
  refine bH (b := b1) (d := d) (acc := acc1) (ss := [(⟨#[32]⟩ :ByteArray)]) aP aB aB aB aD (by simp) (Nat.le_trans (hT _ _) hl) ?_
  intro h2 b2 x2 v2 ps2 fr2 hb2
  have hn2 := fr2.1
  simp only [aA.aE, aA.aC] at hn2 hb2
  have fb2 : aR p b h h2 := aR.call (b1 := b1) aO (by omega) fr2
  have hbl2 := ps2.aY
  simp only [List.foldl_cons, List.foldl_nil] at ps2
  refine QL (QV (Ma (w:=Mu (w:=QK ?_))))
  apply WS.uD
  (· rfl); (· rfl); (· exact aL); (· rfl); (· rfl); (· exact hen)
  refine hone (b' := b2) (acc' := acc1 ++ (⟨#[32]⟩ :ByteArray)) aP (hv.mono aB (fun j hj hlt => ⟨hj, bB⟩)) hl ?_
  intro h3 b3 x3 v3 ps3 fr3 hb3
  have hn3 := fr3.1
  simp only [aA.aE, aA.aC] at hn3 hb3
  have fb3 : aR p b h h3 := aR.call (b1 := b2) aO (by omega) fr3
  refine QL ?_
  refine ⟨_, aM, ?_⟩
  exact hq _ b3 _ _ ps3 (aR.out fb3) (by omega)
 ·rw [if_pos (by omega)] at hl hq
  refine ⟨_, aM, ?_⟩
  exact hq _ b1 _ _ aP (aR.out aO) (by omega)

theorem rU {s : ByteArray} (c : CPr n r) (w : Wks (n + 1) t) (hd : 0 ≤ d ∧ d + n ≤ 1000000) (ps : gI h p b d acc) (hv : NV h (fun j => j < p) (aG t v m es) t) (hl : (jY r d t s acc).size ≤ o5) (hq : kO p b d h (jY r d t s acc) Q) : aS Tryz.prog G X 59 [pV p, .agg (aG t v m es).toArray, .string s] h Q := by
 have hlen := w.len
 have hmk := hv.nD
 subst hmk
 have hp := ps.lt
 have hbl := ps.aY
 unfold jY at hl hq
 refine Wk Tryz.func59 Tryz.ntmps59 (w:=QN (Mx (w:=QO (Ma (w:=Mu (w:=MJ eH (w:=cS (t := t) (i := 0) (hv.mono aB (fun j hj hlt => ⟨hj, bB⟩)) (by omega) (by omega) fun h1 v1 m1 e1 g1 k1 nv1 => ?_)))))))
 have hn1 := g1.1
 (try simp only [aA.aE, aA.aC] at hn1)
 refine MJ jP (w:=c.expr (t := aW t 0) (b := b) (d := d) (acc := acc) ⟨by omega, by omega⟩ (w.eF 0) aP (nv1.mono aB (fun j hj hlt => ⟨hj, bB⟩)) bI ?_)
 intro h2 b2 x2 v2 ps2 fr2 hb2
 have hn2 := fr2.1
 (try simp only [aA.aE, aA.aC] at hn2 hb2)
 have fb2 : aR p b h h2 := aR.call (b1 := b) aO (by omega) fr2
 have hbl2 := ps2.aY
 generalize r.expr d (aW t 0) acc = acc2 at ps2 hq hl
 refine QO (Ma (w:=Ma (w:=My (w:=MJ bQ (w:=bH (b := b2) (d := d) (acc := acc2) (ss := [s]) aP aB aB aB aD (by simp) bI ?_)))))
 intro h3 b3 x3 v3 ps3 fr3 hb3
 have hn3 := fr3.1
 (try simp only [aA.aE, aA.aC] at hn3 hb3)
 have fb3 : aR p b h h3 := aR.call (b1 := b2) aO (by omega) fr3
 have hbl3 := ps3.aY
 simp only [List.foldl_cons, List.foldl_nil] at ps3
 generalize acc2 ++ s = acc3 at ps3 hq hl
 refine QL (QV (Ma (w:=Mu (w:=MJ eH (w:=cS (t := t) (i := 1) (hv.mono aB (fun j hj hlt => ⟨hj, bB⟩)) (by omega) (by omega) fun h4 v4 m4 e4 g4 k4 nv4 => ?_)))))
 have hn4 := g4.1
 (try simp only [aA.aE, aA.aC] at hn4)
 refine MJ jP (w:=c.expr (t := aW t 1) (b := b3) (d := d) (acc := acc3) ⟨by omega, by omega⟩ (w.eF 1) aP (nv4.mono aB (fun j hj hlt => ⟨hj, bB⟩)) bI ?_)
 intro h5 b5 x5 v5 ps5 fr5 hb5
 have hn5 := fr5.1
 (try simp only [aA.aE, aA.aC] at hn5 hb5)
 have fb5 : aR p b h h5 := aR.call (b1 := b3) aO (by omega) fr5
 have hbl5 := ps5.aY
 generalize r.expr d (aW t 1) acc3 = acc5 at ps5 hq hl
 refine QL ?_
 refine ⟨_, aM, ?_⟩
 exact hq _ b5 _ _ ps5 (aR.out fb5) (by omega)

theorem gI.dep {d' : Int} {y z : Value} (ps : gI h p b d acc) (ho : h.obj p = some (.cells false [y, z, .int .i64 d])) : gI (h.put p (some (.cells false [y, z, .int .i64 d']))) p b d' acc := by
 obtain ⟨a, v, n, es, h1, h2, h3⟩ := ps.obj
 rw [ho] at h1
 cases h1
 refine ⟨ps.lt, ps.ty, a, v, n, es, eG, h2, ?_⟩
 rcases h3 with h3 | ⟨k1, k2, k3, k4, k5, k6, k7, k8⟩
 ·exact .inl h3
 ·exact .inr ⟨k1, k2, k3, k4, k5, k6, k7, bF (by omega) k8⟩

end
section
variable {n : Nat} {r : Pr} {t : Nd} {p b : Nat} {d : Int} {acc : ByteArray} {v : Option Addr} {m es : Nat} {h : aA} {Q : bR → Prop}

theorem aB3 {l : List Nd} (c : CPr n r) (hk : ∀ u ∈ l, Wks n u) (hll : l.length ≤ 1000000000) (hd : 0 ≤ d ∧ d + (n + 1) ≤ 1000000) (ps : gI h p b d acc) (lv : LV h (fun j => j < p) v m es l) (hl : (lF r d l acc).size ≤ o5) (hq : kO p b d h (lF r d l acc) Q) : aS Tryz.prog G X 97 [pV p, .slice v m es] h Q := by
 have hp := ps.lt
 have hbl := ps.aY
 have hm := lv.len
 subst hm
 generalize hA : lF r d l acc = A at *
 unfold lF at hA
 obtain ⟨a0, v0, n0, es0, ho0, _⟩ := ps.obj
 have ps0 := ps.dep (d' := d + 1) ho0
 refine Wk Tryz.func97 Tryz.ntmps97 (w:=QN (Ma (w:=Mi (w:=Mj (w:=Mt (w:=Mf (w:=Mi (w:=Mj (w:=Mv (w:=QL (QU (QN (Ma (w:=Ms (w:=Ma (w:=QL (Bk ?_)))))))))))))))))
 refine WC.cB hX (α := Nat × Nat × ByteArray) (m := fun a => l.length - a.1) (Inv := fun a e h' => e 0 = some (pV p) ∧ e 13 = some (.slice v l.length es) ∧ e 14 = some (.int .i64 l.length) ∧ e 15 = some (.int .i64 a.1) ∧ gI h' p a.2.1 (d + 1) a.2.2 ∧ aR p b h h' ∧ (a.2.1 = b ∨ h.next ≤ a.2.1) ∧ a.1 ≤ l.length ∧ fT r (d + 1) (l.drop a.1) a.2.2 = A)
  (0, b, acc) ⟨rfl, rfl, rfl, rfl, ps0, aR.self (aR.refl _ _ _), .inl rfl, Nat.zero_le _, hA⟩ ?_
 rintro ⟨i, b5, acc5⟩ env h5 ih ⟨e0, e13, e14, e15, ps5, fb5, hb5, hi5, hA5⟩
 simp only at e15 ps5 hb5 hi5 hA5
 have hn5 := fb5.1
 have hbl5 := ps5.aY
 have lv5 : LV h5 (fun j => j < p) v l.length es l := lv.mono hn5 fun j hj hlt => ⟨hj, fb5.2 j hlt (by omega) (by omega)⟩
 refine QN (MF (w:=fun hh => QL (QU (QR (UA (QU (Bk (QN (QK ?_)))))))) (v:=fun hh => QL (QU (QS (WC.exit (aH (QV (Ma (w:=Mi (w:=Mj (w:=QK ?_)))))))))))
 ·have hi : i < l.length := by omega
  rw [List.drop_eq_getElem_cons hi] at hA5
  unfold fT at hA5
  have hl5 := hl
  rw [← hA5] at hl5
  have hl6 := Nat.le_trans (tM c.m _ _ _) hl5
  have hmem : l[i] ∈ l := List.getElem_mem hi
  have hku := hk _ hmem
  rcases lv5 with ⟨_, _, _, hnil⟩ | ⟨k, off, cells, rfl, _, rfl, h4, h5k, h6, h7, h8⟩
  ·rw [hnil] at hi; simp at hi
  have hvi := h8 i _ (List.getElem?_eq_getElem hi)
  obtain ⟨bi, ni, esi, hei⟩ := hvi.cells
  rw [hei] at hvi
  refine WS.indexAddr (hk := ?_);refine QK ?_
  refine WS.pT (vs := aG l[i] bi ni esi) (hc := ?_) (hv' := ?_) (hk := ?_)
  (· omega); (· rw [show off + (i : Int).toNat * 7 = off + i * 7 by omega, hei]; rfl)
  generalize l[i] = u at *
  obtain ⟨a5, v5, n5, es5, ho5, _⟩ := ps5.obj
  refine Mw (w:=Mv (w:=QO (Ma (w:=Ma (w:=Mi (w:=Mj (w:=Mt (w:=MJ aJv (w:=aAb (b := b5) (d := d + 1) (acc := acc5) aP ⟨by omega, by omega⟩ (Nat.le_trans (c.m.stmt _ _ _) (Nat.le_trans (cZ _ _) hl6)) ?_)))))))))
  intro h6' b6 x6 v6 ps6 fr6 hb6
  have hn6 := fr6.1
  simp only [aA.aE, aA.aC] at hn6 hb6
  have fb6 : aR p b h h6' := aR.call (b1 := b5) aO hb5 fr6
  have hbl6 := ps6.aY
  refine QO (Ma (w:=Mu (w:=MJ wI (w:=c.stmt (t := u) (b := b6) (d := d + 1) (acc := acc5 ++ fU (d + 1)) ⟨by omega, by omega⟩ hku.x aP (hvi.mono aB fun j hj hlt => ⟨hj, bB⟩) (Nat.le_trans (cZ _ _) hl6) ?_))))
  intro h7' b7 x7 v7 ps7 fr7 hb7
  have hn7 := fr7.1
  simp only [aA.aE, aA.aC] at hn7 hb7
  have fb7 : aR p b h h7' := aR.call (b1 := b6) aO (by omega) fr7
  have hbl7 := ps7.aY
  refine QL (QV (Ma (w:=My (w:=MJ bQ (w:=bH (b := b7) (d := d + 1) (acc := r.stmt (d + 1) u (acc5 ++ fU (d + 1))) (ss := [(⟨#[10]⟩ :ByteArray)]) aP aB aB aB aD (by simp) hl6 ?_)))))
  intro h9' b9 x9 v9 ps9 fr9 hb9
  have hn9 := fr9.1
  simp only [aA.aE, aA.aC] at hn9 hb9
  refine QL (QV (Mf (w:=Ma (w:=QL ?_))))
  exact ih (i + 1, b9, r.stmt (d + 1) u (acc5 ++ fU (d + 1)) ++ (⟨#[10]⟩ :ByteArray)) _ _ (by simp only; omega) ⟨aL, aL, aL, rfl, ps9, aR.call (b1 := b7) aO (by omega) fr9, by simp only; omega, hi, hA5⟩
 ·rw [List.drop_of_length_le (by omega)] at hA5
  unfold fT at hA5
  subst hA5
  obtain ⟨a5, v5, n5, es5, ho5, _⟩ := ps5.obj
  have ps6 := ps5.dep (d' := d + 1 - 1) ho5
  refine WS.jC (hk := ?_);refine Mg (w:=Mi (w:=Mj (w:=Mv (w:=QL ?_))))
  refine ⟨_, aM, ?_⟩
  exact hq _ b5 _ _ (by first | exact ps6 | (rw [show d + 1 - 1 = d by omega] at ps6; exact ps6) | (simp only [show d + 1 - 1 = d by omega] at ps6 ⊢; exact ps6)) (aR.out fb5.self) hb5

theorem kR (c : CPr n r) (hk : ∀ u ∈ t.kids, Wks n u) (hlen : t.kids.length ≤ 1000000) (hd : 0 ≤ d ∧ d + (n + 1) ≤ 1000000) (ps : gI h p b d acc) (hv : NV h (fun j => j < p) (aG t v m es) t) (hl : (eX r d t acc).size ≤ o5) (hq : kO p b d h (eX r d t acc) Q) : aS Tryz.prog G X 79 [pV p, .agg (aG t v m es).toArray] h Q := by
 have hmk := hv.nD
 subst hmk
 have hp := ps.lt
 have hbl := ps.aY
 unfold eX at hl hq
 refine Wk Tryz.func79 Tryz.ntmps79 (w:=QN (Mx (w:=QL (QU (QN (Mj (w:=Mt (w:=ME (w:=fun hh => QQ (QN (Ma (w:=My (w:=QK ?_))))) (v:=fun hh => QP (UA (QN (Ma (w:=My (w:=QK ?_))))))))))))))
 ·rw [if_neg (by assumption)] at hl hq
  refine QJ bQ ?_
  refine bH (b := b) (d := d) (acc := acc) (ss := [(⟨#[63]⟩ :ByteArray)]) aP aB aB aB aD (by simp) bI ?_
  intro h1 b1 x1 v1 ps1 fr1 hb1
  have hn1 := fr1.1
  (try simp only [aA.aE, aA.aC] at hn1 hb1)
  have fb1 : aR p b h h1 := aR.call (b1 := b) aO (by omega) fr1
  have hbl1 := ps1.aY
  simp only [List.foldl_cons, List.foldl_nil] at ps1
  generalize acc ++ (⟨#[63]⟩ :ByteArray) = acc1 at ps1 hq hl
  refine QM ?_
  refine ⟨_, aM, ?_⟩
  exact hq _ b1 _ _ ps1 (aR.out fb1) (by omega)
 ·rw [if_pos (by omega)] at hl hq
  refine QJ bQ ?_
  refine bH (b := b) (d := d) (acc := acc) (ss := [(⟨#[123, 10]⟩ :ByteArray)]) aP aB aB aB aD (by simp) bI ?_
  intro h1 b1 x1 v1 ps1 fr1 hb1
  have hn1 := fr1.1
  (try simp only [aA.aE, aA.aC] at hn1 hb1)
  have fb1 : aR p b h h1 := aR.call (b1 := b) aO (by omega) fr1
  have hbl1 := ps1.aY
  simp only [List.foldl_cons, List.foldl_nil] at ps1
  generalize acc ++ (⟨#[123, 10]⟩ :ByteArray) = acc1 at ps1 hq hl
  refine QO (Ma (w:=Mj (w:=Mt (w:=QK ?_))))
  have nv1 : NV h1 (fun j => j < p) (aG t v t.kids.length es) t := hv.mono aB (fun j hj hlt => ⟨hj, bB⟩)
  refine QJ aPw ?_
  refine aB3 c hk (by omega) hd (b := b1) (acc := acc1) aP nv1.lv bI ?_
  intro h2 b2 x2 v2 ps2 fr2 hb2
  have hn2 := fr2.1
  (try simp only [aA.aE, aA.aC] at hn2 hb2)
  have fb2 : aR p b h h2 := aR.call (b1 := b1) aO (by omega) fr2
  have hbl2 := ps2.aY
  generalize lF r d t.kids acc1 = acc2 at ps2 hq hl
  obtain ⟨a2, v2', n2, es2, ho2, _⟩ := ps2.obj
  refine QO (Ma (w:=Ma (w:=Mi (w:=Mj (w:=Mt (w:=MJ aJv (w:=aAb (b := b2) (d := d) (acc := acc2) aP ⟨by omega, by omega⟩ bI ?_)))))))
  intro h3 b3 x3 v3 ps3 fr3 hb3
  have hn3 := fr3.1
  (try simp only [aA.aE, aA.aC] at hn3 hb3)
  have fb3 : aR p b h h3 := aR.call (b1 := b2) aO (by omega) fr3
  have hbl3 := ps3.aY
  generalize acc2 ++ fU d = acc3 at ps3 hq hl
  refine QL (QV (Ma (w:=My (w:=MJ bQ (w:=bH (b := b3) (d := d) (acc := acc3) (ss := [(⟨#[125]⟩ :ByteArray)]) aP aB aB aB aD (by simp) bI ?_)))))
  intro h4 b4 x4 v4 ps4 fr4 hb4
  have hn4 := fr4.1
  (try simp only [aA.aE, aA.aC] at hn4 hb4)
  have fb4 : aR p b h h4 := aR.call (b1 := b3) aO (by omega) fr4
  have hbl4 := ps4.aY
  simp only [List.foldl_cons, List.foldl_nil] at ps4
  generalize acc3 ++ (⟨#[125]⟩ :ByteArray) = acc4 at ps4 hq hl
  refine QL ?_
  refine ⟨_, aM, ?_⟩
  exact hq _ b4 _ _ ps4 (aR.out fb4) (by omega)

theorem uJ (c : CPr n r) (w : Wks (n + 1) t) (hd : 0 ≤ d ∧ d + (n + 1) ≤ 1000000) (ps : gI h p b d acc) (hv : NV h (fun j => j < p) (aG t v m es) t) (hl : (dK r d t acc).size ≤ o5) (hq : kO p b d h (dK r d t acc) Q) : aS Tryz.prog G X 44 [pV p, .agg (aG t v m es).toArray] h Q := by
 have hlen := w.len
 have hmk := hv.nD
 subst hmk
 have hp := ps.lt
 have hbl := ps.aY
 unfold dK at hl hq
 dsimp only at hl hq
 have hk0 := w.tK (i := 0)
 refine Wk Tryz.func44 Tryz.ntmps44 (w:=QN (Mx (w:=QO (Ma (w:=My (w:=MJ bQ (w:=bH (b := b) (d := d) (acc := acc) (ss := [(⟨#[40]⟩ :ByteArray)]) aP aB aB aB aD (by simp) bI ?_)))))))
 intro h1 b1 x1 v1 ps1 fr1 hb1
 have hn1 := fr1.1
 (try simp only [aA.aE, aA.aC] at hn1 hb1)
 have fb1 : aR p b h h1 := aR.call (b1 := b) aO (by omega) fr1
 have hbl1 := ps1.aY
 simp only [List.foldl_cons, List.foldl_nil] at ps1
 generalize acc ++ (⟨#[40]⟩ :ByteArray) = acc1 at ps1 hq hl
 refine QO (Ma (w:=Mu (w:=MJ eH (w:=cS (t := t) (i := 0) (hv.mono aB (fun j hj hlt => ⟨hj, bB⟩)) (by omega) (by omega) fun h2 v2 m2 e2 g2 k2 nv2 => ?_))))
 have hn2 := g2.1
 (try simp only [aA.aE, aA.aC] at hn2)
 refine Mk (w:=Ma (w:=Mp (w:=MJ aCx (w:=?_))))
 refine rI (T := eJ r) (oJ c.m) (I := fun _ => True) aJu (b := b1) (d := d) (acc := acc1) (fun _ _ => trivial) (fun hx _ ps' hv' hl' hq' => sG c (w.yC hx).up ps' hv' hl' hq') aP (nv2.lv.mono aB (fun j hj hlt => ⟨hj, bB⟩)) (by (try simp only [List.length_take, List.length_drop]); omega) bI ?_
 intro h3 b3 x3 v3 ps3 fr3 hb3
 have hn3 := fr3.1
 (try simp only [aA.aE, aA.aC] at hn3 hb3)
 have fb3 : aR p b h h3 := aR.call (b1 := b1) aO (by omega) fr3
 have hbl3 := ps3.aY
 generalize fR (eJ r) (aW t 0).kids acc1 = acc3 at ps3 hq hl
 refine QO (Ma (w:=My (w:=MJ bQ (w:=bH (b := b3) (d := d) (acc := acc3) (ss := [(⟨#[41, 32]⟩ :ByteArray)]) aP aB aB aB aD (by simp) bI ?_))))
 intro h4 b4 x4 v4 ps4 fr4 hb4
 have hn4 := fr4.1
 (try simp only [aA.aE, aA.aC] at hn4 hb4)
 have fb4 : aR p b h h4 := aR.call (b1 := b3) aO (by omega) fr4
 have hbl4 := ps4.aY
 simp only [List.foldl_cons, List.foldl_nil] at ps4
 generalize acc3 ++ (⟨#[41, 32]⟩ :ByteArray) = acc4 at ps4 hq hl
 refine QL (QU (QN (Mu (w:=MJ eH (w:=cS (t := t) (i := 1) (hv.mono aB (fun j hj hlt => ⟨hj, bB⟩)) (by omega) (by omega) fun h5 v5 m5 e5 g5 k5 nv5 => ?_)))))
 have hn5 := g5.1
 (try simp only [aA.aE, aA.aC] at hn5)
 refine Mw (w:=Mv (w:=QO (Mj (w:=Mt (w:=ME (w:=fun hh => QQ (QN (Ma (w:=Mu (w:=QK ?_))))) (v:=fun hh => QP (UA (QV (Ma (w:=Mu (w:=QK ?_)))))))))))
 ·rw [if_neg (by assumption)] at hl hq
  refine QJ aA1 ?_
  refine c.cD (t := aW t 1) (b := b4) (d := d) (acc := acc4) (w.eF 1) aP (nv5.mono aB (fun j hj hlt => ⟨hj, bB⟩)) bI ?_
  intro h6 b6 x6 v6 ps6 fr6 hb6
  have hn6 := fr6.1
  (try simp only [aA.aE, aA.aC] at hn6 hb6)
  have fb6 : aR p b h h6 := aR.call (b1 := b4) aO (by omega) fr6
  have hbl6 := ps6.aY
  generalize r.cD (aW t 1) acc4 = acc6 at ps6 hq hl
  refine QL (QV (Ma (w:=My (w:=MJ bQ (w:=bH (b := b6) (d := d) (acc := acc6) (ss := [(⟨#[32]⟩ :ByteArray)]) aP aB aB aB aD (by simp) bI ?_)))))
  intro h7 b7 x7 v7 ps7 fr7 hb7
  have hn7 := fr7.1
  (try simp only [aA.aE, aA.aC] at hn7 hb7)
  have fb7 : aR p b h h7 := aR.call (b1 := b6) aO (by omega) fr7
  have hbl7 := ps7.aY
  simp only [List.foldl_cons, List.foldl_nil] at ps7
  generalize acc6 ++ (⟨#[32]⟩ :ByteArray) = acc7 at ps7 hq hl
  refine QL (QV (Ma (w:=Mu (w:=MJ eH (w:=cS (t := t) (i := 2) (hv.mono aB (fun j hj hlt => ⟨hj, bB⟩)) (by omega) (by omega) fun h8 v8 m8 e8 g8 k8 nv8 => ?_)))))
  have hn8 := g8.1
  (try simp only [aA.aE, aA.aC] at hn8)
  refine MJ aA2 (w:=kR c (fun u hu => w.yC hu) w.tK hd (b := b7) (acc := acc7) aP (nv8.mono aB (fun j hj hlt => ⟨hj, bB⟩)) hl ?_)
  intro h9 b9 x9 v9 ps9 fr9 hb9
  have hn9 := fr9.1
  (try simp only [aA.aE, aA.aC] at hn9 hb9)
  have fb9 : aR p b h h9 := aR.call (b1 := b7) aO (by omega) fr9
  refine QL ?_
  refine ⟨_, aM, ?_⟩
  exact hq _ b9 _ _ ps9 (aR.out fb9) (by omega)
 ·rw [if_pos (by omega)] at hl hq
  refine QJ eH ?_
  refine cS (t := t) (i := 2) (hv.mono aB (fun j hj hlt => ⟨hj, bB⟩)) (by omega) (by omega) fun h8 v8 m8 e8 g8 k8 nv8 => ?_
  have hn8 := g8.1
  (try simp only [aA.aE, aA.aC] at hn8)
  refine MJ aA2 (w:=kR c (fun u hu => w.yC hu) w.tK hd (b := b4) (acc := acc4) aP (nv8.mono aB (fun j hj hlt => ⟨hj, bB⟩)) hl ?_)
  intro h9 b9 x9 v9 ps9 fr9 hb9
  have hn9 := fr9.1
  (try simp only [aA.aE, aA.aC] at hn9 hb9)
  have fb9 : aR p b h h9 := aR.call (b1 := b4) aO (by omega) fr9
  refine QL ?_
  refine ⟨_, aM, ?_⟩
  exact hq _ b9 _ _ ps9 (aR.out fb9) (by omega)

end
end Go.Proofs.ZL
end
