/- The document's parser, first part. -/
import Derived.Test.YtoifleamknbeaaaGreatDoorYU2
import Derived.Test.YtoifleamknbeaaaGreatDoorYPX
section
open Go Go.Am
namespace Go.Proofs.ZL
set_option maxRecDepth 100000
set_option linter.unusedSimpArgs false
set_option linter.unusedVariables false
set_option maxHeartbeats 4000000
variable {h : aE} {Q : bW → Prop} {L : List Tok} {p : Nat} {hd : Bool} {src : ByteArray}
inductive Xs where
 | live (s : St)
 | dead (e : Nat) (s : St)
abbrev Xs.st : Xs → St
 | .live s => s
 | .dead _ s => s
def Xs.bad (L : List Tok) : Xs → Int
 | .live _ => -1
 | .dead e _ => (aF L e).pos
def Xs.run {α : Type} (x : Xs) (f : St → R α) : R α := match x with
 | .live s => f s
 | .dead e _ => .bad e
def Xs.is (L : List Tok) (ts : List ByteArray) : Xs → Bool
 | .live s => bA L s ts
 | .dead _ _ => false
def Xs.got (L : List Tok) (t : ByteArray) : Xs → Xs
 | .live s => .live (jP L s t)
 | .dead e s => .dead e s
def Xs.fail : Xs → Xs
 | .live s => .dead s.k s
 | .dead e s => .dead e s
def Xs.with (b : Bool) : Xs → Xs
 | .live s => .live (s.with b)
 | .dead e s => .dead e (s.with b)

theorem Xs.dQ {α β : Type} (x : Xs) (f : St → R α) (g : α → St → R β) : (x.run f).then g = x.run fun s => (f s).then g := by cases x <;> rfl
theorem Xs.lQ {α : Type} {x : Xs} {ts : List ByteArray} (h : x.is L ts = false) (A B : St → R α) : (x.run fun s => if bA L s ts then A s else B s) = x.run B := by
 cases x with
 | live s => show (if bA L s ts then A s else B s) = B s; rw [if_neg]; intro e; rw [show bA L s ts = false from h] at e; cases e
 | dead e s => rfl
theorem Xs.tJ {α : Type} {x : Xs} {ts : List ByteArray} (h : x.is L ts = true) (A B : St → R α) : (x.run fun s => if bA L s ts then A s else B s) = x.run A := by
 cases x with
 | live s => show (if bA L s ts then A s else B s) = A s; rw [if_pos]; exact h
 | dead e s => rfl
theorem Xs.fZ {x : Xs} {ts : List ByteArray} (h : x.is L ts = true) : ∃ s, x = .live s ∧ bA L s ts = true := by
 cases x with
 | live s => exact ⟨s, rfl, h⟩
 | dead e s => cases h
theorem Xs.a8 {α : Type} (s : St) (f : St → R α) : (Xs.live s).run f = f s := rfl
theorem Xs.aGa {α : Type} (x : Xs) (L : List Tok) (a : α) : (x.fail.run fun s => .ok a s) = x.run fun s => eA L s := by cases x <;> rfl

structure WFX (L : List Tok) : Prop extends WF L where
 pos : ∀ k, 0 ≤ (aF L k).pos
 kd : ∀ k, (aF L k).kind = 1 ∨ (aF L k).kind = 2 ∨ (aF L k).kind = 3 ∨ (aF L k).kind = 4 ∨ (aF L k).kind = 5 ∨ (aF L k).kind = 6
 wd : ∀ k, (aF L k).kind = 4 → dE words (aF L k).text = true
 mks : ∀ k, (aF L k).kind = 5 → dE marks (aF L k).text = true
theorem aEu : words.all (fun w => decide (w.size ≤ 100) && w.data.toList.all fun b => decide (b ≠ 32)) = true := by decide +kernel
theorem aDt : marks.all (fun w => decide (w.size ≤ 100) && w.data.toList.all fun b => decide (b ≠ 32)) = true := by decide +kernel
theorem WFX.aMc (w : WFX L) (k : Nat) (h : (aF L k).kind = 4 ∨ (aF L k).kind = 5) : (decide ((aF L k).text.size ≤ 100) && (aF L k).text.data.toList.all fun b => decide (b ≠ 32)) = true := by
 rcases h with h | h
 ·exact (List.all_eq_true.1 aEu) _ (bL.1 (w.wd k h))
 ·exact (List.all_eq_true.1 aDt) _ (bL.1 (w.mks k h))
theorem WFX.txt (w : WFX L) (k : Nat) (h : (aF L k).kind = 4 ∨ (aF L k).kind = 5) : noB (aF L k).text := by
 have := w.aMc k h
 rw [Bool.and_eq_true, List.all_eq_true] at this
 exact fun b hb => of_decide_eq_true (this.2 b hb)
theorem WFX.small (w : WFX L) (k : Nat) (h : (aF L k).kind = 4 ∨ (aF L k).kind = 5) : (aF L k).text.size ≤ 100000 := by
 have := w.aMc k h
 rw [Bool.and_eq_true] at this
 have := of_decide_eq_true this.1
 omega

structure bG (h : aE) (p : Nat) (L : List Tok) (hd : Bool) (x : Xs) : Prop where
 lt : p < h.next
 tok : ∃ j br, j < p ∧ h.obj p = some (.cells false [.slice (some ⟨j, 0, none⟩) L.length 4, .int .i64 x.st.k, .int .i64 (x.bad L), .bool hd, .bool br]) ∧ h.obj j = some (.cells false (cellsOf L))
 at_ : x.st.k < L.length
 wf : WFX L
def BrX (h : aE) (p : Nat) (x : Xs) : Prop := ∃ sl k b hv, h.obj p = some (.cells false [sl, k, b, hv, .bool x.st.bare])

theorem BrX.bH {h h' : aE} {x : Xs} (b : BrX h p x) (ho : h'.obj p = h.obj p) : BrX h' p x := by obtain ⟨sl, k, bd, hv, h1⟩ := b; exact ⟨sl, k, bd, hv, ho.trans h1⟩
theorem bG.bH {h h' : aE} {x : Xs} (ps : bG h p L hd x) (hn : h.next ≤ h'.next) (hk : ∀ j, j ≤ p → h'.obj j = h.obj j) : bG h' p L hd x := by
 obtain ⟨j, br, hj, h1, h2⟩ := ps.tok
 exact ⟨Nat.lt_of_lt_of_le ps.lt hn, ⟨j, br, hj, by rw [hk p (Nat.le_refl _)]; exact h1, by rw [hk j (Nat.le_of_lt hj)]; exact h2⟩, ps.at_, ps.wf⟩
theorem bG.gr {h h' : aE} {x : Xs} (ps : bG h p L hd x) (g : Gr h h') : bG h' p L hd x := ps.bH g.1 fun j hj => g.2 j (by have := ps.lt; omega)
theorem bG.alloc {x : Xs} (ps : bG h p L hd x) (o : fI) : bG (h.alloc o) p L hd x := ps.gr (Gr.alloc _ _)
theorem bG.put {x : Xs} (ps : bG h p L hd x) {i : Nat} {o : Option fI} (hi : p < i) : bG (h.put i o) p L hd x := ps.bH (Nat.le_refl _) fun j hj => bF (by omega) rfl
theorem bG.head {hd hd' : Bool} {x : Xs} {sl k b br : Value} (ps : bG h p L hd x) (ho : h.obj p = some (.cells false [sl, k, b, .bool hd, br])) : bG (h.put p (some (.cells false [sl, k, b, .bool hd', br]))) p L hd' x := by
 obtain ⟨j, br0, hj, h1, h2⟩ := ps.tok
 have e := ho.symm.trans h1
 cases e
 exact ⟨ps.lt, ⟨j, br0, hj, fX, bF (by omega) h2⟩, ps.at_, ps.wf⟩
theorem bG.aLj {s : St} {k : Int} {sl b hv br : Value} (ps : bG h p L hd (.live s)) (ho : h.obj p = some (.cells false [sl, .int .i64 k, b, hv, br])) (hk : s.k + 1 < L.length) : bG (h.put p (some (.cells false [sl, .int .i64 (k + 1), b, hv, br]))) p L hd (.live s.next) := by
 obtain ⟨j, br0, hj, h1, h2⟩ := ps.tok
 have e := ho.symm.trans h1
 cases e
 exact ⟨ps.lt, ⟨j, br0, hj, fX, bF (by omega) h2⟩, hk, ps.wf⟩
theorem bG.aLk {s : St} {sl k b hv br : Value} {t : Tok} (ps : bG h p L hd (.live s)) (ho : h.obj p = some (.cells false [sl, k, b, hv, br])) (ht : aF L s.k = t) : bG (h.put p (some (.cells false [sl, k, .int .i64 t.pos, hv, br]))) p L hd (Xs.live s).fail := by
 obtain ⟨j, br0, hj, h1, h2⟩ := ps.tok
 have e := ho.symm.trans h1
 cases e
 exact ⟨ps.lt, ⟨j, br0, hj, by rw [← ht]; exact fX, bF (by omega) h2⟩, ps.at_, ps.wf⟩
theorem bG.aL0 {x : Xs} {sl k b hv br : Value} {br' : Bool} (ps : bG h p L hd x) (ho : h.obj p = some (.cells false [sl, k, b, hv, br])) : bG (h.put p (some (.cells false [sl, k, b, hv, .bool br']))) p L hd x := by
 obtain ⟨j, br0, hj, h1, h2⟩ := ps.tok
 have e := ho.symm.trans h1
 cases e
 exact ⟨ps.lt, ⟨j, br', hj, fX, bF (by omega) h2⟩, ps.at_, ps.wf⟩
theorem bG.with {x : Xs} (ps : bG h p L hd x) (b : Bool) : bG h p L hd (x.with b) := by
 cases x <;> exact ⟨ps.lt, ps.tok, ps.at_, ps.wf⟩
theorem bG.live {s : St} (ps : bG h p L hd (.live s)) : s.k < L.length ∧ ∃ j br, j < p ∧ h.obj p = some (.cells false [.slice (some ⟨j, 0, none⟩) L.length 4, .int .i64 s.k, .int .i64 (-1), .bool hd, .bool br]) ∧ h.obj j = some (.cells false (cellsOf L)) := ⟨ps.at_, ps.tok⟩
theorem bG.st {s s' : St} (ps : bG h p L hd (.live s)) (hk : s'.k = s.k) : bG h p L hd (.live s') := by
 obtain ⟨k, b⟩ := s; obtain ⟨k', b'⟩ := s'
 simp only at hk; subst hk
 exact ⟨ps.lt, ps.tok, ps.at_, ps.wf⟩
theorem aQ {p : Prop} (h : p := by repeat (first | assumption | (refine bG.put ?_ aB) | (refine bG.alloc ?_ _) | (refine bG.gr ?_ (by assumption)) | (refine bG.head ?_ aA) | (refine bG.aLj ?_ aA (by assumption)) | (refine bG.aL0 ?_ aA))) : p := h

theorem bG.dA {e : Nat} {s : St} (ps : bG h p L hd (.dead e s)) : 0 ≤ Xs.bad L (.dead e s) := ps.wf.pos e

def aU {α : Type} (V : aE → α → Value → Prop) (p : Nat) (L : List Tok) (hd : Bool) (h : aE) (Q : bW → Prop) (r : R α) : Prop :=
 r ≠ .out ∧ ∀ h' v x a, (x.run fun s => .ok a s) = r → bG h' p L hd x → bB p h h' → V h' a v → Q (.ret v h')

theorem aU.use {α β : Type} {V : aE → α → Value → Prop} {W : aE → β → Value → Prop} {hd hd' : Bool} {h h1 : aE} {Q Q' : bW → Prop} {x : Xs} {F : St → R α} {g : α → St → R β} (fr : bB p h h1) (hq : aU W p L hd h Q (x.run fun s => (F s).then g))
  (hok : ∀ a x' h2 v, bG h2 p L hd' x' → bB p h1 h2 → V h2 a v → aU W p L hd h Q (x'.run (g a)) → Q' (.ret v h2)) : aU V p L hd' h1 Q' (x.run F) := by
 rw [← Xs.dQ] at hq
 refine ⟨fun e => hq.1 (by rw [e]; rfl), fun h2 v x' a e ps fr2 hv => hok a x' h2 v ps fr2 hv ?_⟩
 rw [← e, Xs.dQ] at hq
 exact hq

theorem aU.fin {α : Type} {V : aE → α → Value → Prop} {x : Xs} {a : α} (hq : aU V p L hd h Q (x.run fun s => .ok a s)) {h' : aE} {v : Value} (ps : bG h' p L hd x) (fr : bB p h h') (hv : V h' a v) : Q (.ret v h') := hq.2 h' v x a rfl ps fr hv
theorem aU.fail {α : Type} {V : aE → α → Value → Prop} {x : Xs} (hq : aU V p L hd h Q (x.run fun s => eA L s)) {h' : aE} {v : Value} (a : α) (ps : bG h' p L hd x.fail) (fr : bB p h h') (hv : V h' a v) : Q (.ret v h') := hq.2 h' v x.fail a (Xs.aGa x L a) ps fr hv

def dF {α : Type} (V : aE → α → Value → Prop) (p : Nat) (L : List Tok) (hd : Bool) (h : aE) (Q : bW → Prop) (r : R α) : Prop :=
 r ≠ .out ∧ ∀ h' v x a, (x.run fun s => .ok a s) = r → bG h' p L hd x → BrX h' p x → bB p h h' → V h' a v → Q (.ret v h')
theorem aU.aGx {α β : Type} {V : aE → α → Value → Prop} {W : aE → β → Value → Prop} {hd hd' : Bool} {h h1 : aE} {Q Q' : bW → Prop} {x : Xs} {F : St → R α} {g : α → St → R β} (fr : bB p h h1) (hq : aU W p L hd h Q (x.run fun s => (F s).then g))
  (hok : ∀ a x' h2 v, bG h2 p L hd' x' → BrX h2 p x' → bB p h1 h2 → V h2 a v → aU W p L hd h Q (x'.run (g a)) → Q' (.ret v h2)) : dF V p L hd' h1 Q' (x.run F) := by
 rw [← Xs.dQ] at hq
 refine ⟨fun e => hq.1 (by rw [e]; rfl), fun h2 v x' a e ps br fr2 hv => hok a x' h2 v ps br fr2 hv ?_⟩
 rw [← e, Xs.dQ] at hq
 exact hq
theorem dF.use {α β : Type} {V : aE → α → Value → Prop} {W : aE → β → Value → Prop} {hd hd' : Bool} {h h1 : aE} {Q Q' : bW → Prop} {x : Xs} {F : St → R α} {g : α → St → R β} (fr : bB p h h1) (hq : dF W p L hd h Q (x.run fun s => (F s).then g))
  (hok : ∀ a x' h2 v, bG h2 p L hd' x' → bB p h1 h2 → V h2 a v → dF W p L hd h Q (x'.run (g a)) → Q' (.ret v h2)) : aU V p L hd' h1 Q' (x.run F) := by
 rw [← Xs.dQ] at hq
 refine ⟨fun e => hq.1 (by rw [e]; rfl), fun h2 v x' a e ps fr2 hv => hok a x' h2 v ps fr2 hv ?_⟩
 rw [← e, Xs.dQ] at hq
 exact hq
theorem dF.aGx {α β : Type} {V : aE → α → Value → Prop} {W : aE → β → Value → Prop} {hd hd' : Bool} {h h1 : aE} {Q Q' : bW → Prop} {x : Xs} {F : St → R α} {g : α → St → R β} (fr : bB p h h1) (hq : dF W p L hd h Q (x.run fun s => (F s).then g))
  (hok : ∀ a x' h2 v, bG h2 p L hd' x' → BrX h2 p x' → bB p h1 h2 → V h2 a v → dF W p L hd h Q (x'.run (g a)) → Q' (.ret v h2)) : dF V p L hd' h1 Q' (x.run F) := by
 rw [← Xs.dQ] at hq
 refine ⟨fun e => hq.1 (by rw [e]; rfl), fun h2 v x' a e ps br fr2 hv => hok a x' h2 v ps br fr2 hv ?_⟩
 rw [← e, Xs.dQ] at hq
 exact hq
theorem dF.fin {α : Type} {V : aE → α → Value → Prop} {x : Xs} {a : α} (hq : dF V p L hd h Q (x.run fun s => .ok a s)) {h' : aE} {v : Value} (ps : bG h' p L hd x) (br : BrX h' p x) (fr : bB p h h') (hv : V h' a v) : Q (.ret v h') := hq.2 h' v x a rfl ps br fr hv
theorem dF.aKj {α : Type} {V : aE → α → Value → Prop} {x : Xs} {a : α} {b : Bool} (hq : dF V p L hd h Q (x.run fun s => .ok a (s.with b))) {h' : aE} {v : Value} (ps : bG h' p L hd x) {sl k bd hw : Value} (br : h'.obj p = some (.cells false [sl, k, bd, hw, .bool b])) (fr : bB p h h') (hv : V h' a v) : Q (.ret v h') :=
 hq.2 h' v (x.with b) a (by cases x <;> rfl) (ps.with b) ⟨sl, k, bd, hw, by cases x <;> exact br⟩ fr hv
theorem dF.of {α : Type} {V : aE → α → Value → Prop} {r : R α} (hq : aU V p L hd h Q r) : dF V p L hd h Q r := ⟨hq.1, fun h' v x a e ps _ fr hv => hq.2 h' v x a e ps fr hv⟩

def VSt (t : Tok) (_ : aE) (a : Tok) (v : Value) : Prop := v = .string a.text ∧ a.pos = t.pos
def VW (t : Tok) (_ : aE) (a : Tok) (v : Value) : Prop := v = .tuple #[] ∧ a = t

def XN (f : FuncId) (spec : PF Nd) : Prop := ∀ {p : Nat} {L : List Tok} {hd : Bool} {x : Xs} {h : aE} {Q : bW → Prop}, bG h p L hd x → aU (VN (fun j => h.next ≤ j)) p L hd h Q (x.run (spec L hd)) → aP Tryz.prog G X f [pV p] h Q
def XNb (f : FuncId) (spec : PF Nd) : Prop := ∀ {p : Nat} {L : List Tok} {hd : Bool} {x : Xs} {h : aE} {Q : bW → Prop}, bG h p L hd x → dF (VN (fun j => h.next ≤ j)) p L hd h Q (x.run (spec L hd)) → aP Tryz.prog G X f [pV p] h Q
theorem XNb.un {f : FuncId} {spec : PF Nd} (c : XNb f spec) : XN f spec := fun ps hq => c ps (.of hq)
def XK (f : FuncId) (spec : PF (List Nd)) : Prop := ∀ {p : Nat} {L : List Tok} {hd : Bool} {x : Xs} {h : aE} {Q : bW → Prop}, bG h p L hd x → aU (VK (fun j => h.next ≤ j)) p L hd h Q (x.run (spec L hd)) → aP Tryz.prog G X f [pV p] h Q

theorem aLd {k : Nat} {t : Tok} (h : L[k]? = some t) : (cellsOf L)[k * 4 + 3]? = some (.int .i64 t.pos) := by
 have e := fR h
 have h2 : (((cellsOf L).drop (k * 4)).take 4)[3]? = some (.int .i64 t.pos) := by rw [e]; rfl
 rw [List.getElem?_take_of_lt (by omega), List.getElem?_drop] at h2
 exact h2

theorem cN {x : Xs} (ps : bG h p L hd x) (hq : ∀ h', Gr h h' → Q (.ret (.agg (aF L x.st.k).cells.toArray) h')) :
  aP Tryz.prog G X 22 [pV p] h Q := by
 obtain ⟨j, br, hj, ho, hl⟩ := ps.tok
 have hp := ps.lt
 have hk := ps.at_
 have hz := ps.wf.size
 have hget := iQ hk
 generalize aF L x.st.k = t at *
 generalize x.st.k = k at *
 refine Wk Tryz.func22 Tryz.ntmps22 (w:=?_)
 refine QN (Mw (w:=QL (QU (Gd [⟨0, .pure, 0⟩, ⟨1, .pure, 1⟩, ⟨2, .pure, 3⟩, ⟨3, .read, 7⟩, ⟨4, .pure, 0⟩, ⟨5, .pure, 16⟩, ⟨6, .pure, 48⟩, ⟨7, .read, 112⟩, ⟨8, .pure, 255⟩, ⟨9, .read, 511⟩, ⟨10, .aC, 1023⟩] (w:=Da (w:=Di (w:=Dj (w:=Rt (w:=Da (w:=Di (w:=Dj (w:=Rt (w:=Dl (w:=?_))))))))))))));refine WD.read (hw := ?_)
 refine WS.lA (vs := t.cells) (hc := ?_) (hv' := ?_) (hk := ?_)
 (· rw [bD]; omega); (· rw [show 0 + (k : Int).toNat * 4 = k * 4 by omega, fR hget]; rfl)
 refine WD.aC hX (hw := Qv ?_);refine WD.nil (hq:=WC.ret ?_)
 refine ⟨_, aJ, ?_⟩
 exact hq _ cC

theorem eI {x : Xs} (ps : bG h p L hd x)
  (hq : ∀ h', bG h' p L hd x.fail → bB p h h' → Q (.ret (.agg (aH eY none 0 0).toArray) h')) :
  aP Tryz.prog G X 42 [pV p] h Q := by
 obtain ⟨j, br, hj, ho, hl⟩ := ps.tok
 have hp := ps.lt
 have hk := ps.at_
 have hz := ps.wf.size
 have hget := iQ hk
 cases x with
 | dead e s =>
  have hb : 0 ≤ Xs.bad L (.dead e s) := ps.dA
  generalize Xs.bad L (.dead e s) = bd at *
  refine Wk Tryz.func42 Tryz.ntmps42 (w:=QN (Mw (w:=QL (QU (QN (Ma (w:=Mi (w:=Mj (w:=Mt (w:=MF (w:=fun hh => by omega) (v:=fun hh => QP (UA (QN (Mn (w:=Mv (w:=QM ?_))))))))))))))))
  refine ⟨_, aJ, ?_⟩
  exact hq _ aQ aI
 | live s =>
  obtain ⟨hk, j, br, hj, ho, hl⟩ := ps.live
  have hget := iQ hk
  have hc3 := aLd (t := aF L s.k) hget
  have hf : ∀ (h1 : aE) (sl k b hv br : Value), bG h1 p L hd (.live s) → h1.obj p = some (.cells false [sl, k, b, hv, br]) → bG (h1.put p (some (.cells false [sl, k, .int .i64 (aF L s.k).pos, hv, br]))) p L hd (Xs.live s).fail := fun h1 sl k b hv br a b' => a.aLk b' rfl
  generalize (Xs.live s).fail = x' at *
  generalize aF L s.k = t at *
  refine Wk Tryz.func42 Tryz.ntmps42 (w:=?_)
  refine QN (Mw (w:=QL (QU (QN (Ma (w:=Mi (w:=Mj (w:=Mt (w:=MF (w:=fun hh => QQ (Gd [⟨0, .pure, 0⟩, ⟨1, .pure, 0⟩, ⟨2, .pure, 2⟩, ⟨3, .pure, 6⟩, ⟨4, .read, 14⟩, ⟨5, .pure, 0⟩, ⟨6, .pure, 32⟩, ⟨7, .pure, 96⟩, ⟨8, .read, 224⟩, ⟨9, .pure, 510⟩, ⟨10, .pure, 1022⟩, ⟨11, .read, 2046⟩, ⟨12, .pure, 4095⟩, ⟨13, .pure, 8191⟩, ⟨14, .aC, 16383⟩] (w:=Da (w:=Da (w:=Di (w:=Dj (w:=Rt (w:=Da (w:=Di (w:=Dj (w:=Rt (w:=Dl (w:=Dj (w:=?_)))))))))))))) (v:=?_))))))))));refine WD.read (hw := ?_);rotate_left;intro hh;exfalso;omega
  refine WS.jQ (v := .int .i64 t.pos) (hc := ?_) (hk := ?_)
  ·rw [show 0 + (s.k : Int).toNat * 4 + 3 = s.k * 4 + 3 by omega]; exact hc3
  refine Di (w:=Dj (w:=?_));refine WD.aC hX (hw := Qv ?_);refine WD.nil (hq:=QN (Mn (w:=Mv (w:=QM ?_))))
  refine ⟨_, aJ, ?_⟩
  exact hq _ (bG.put (hf _ _ _ _ _ _ (aQ) aA) aB) aI

theorem Xs.aIg (w : WFX L) (x : Xs) (ts : List ByteArray) : x.is L ts = (decide (Xs.bad L x < 0) && kI (aF L x.st.k) ts) := by
 cases x with
 | live s => rfl
 | dead e s =>
  have := w.pos e
  show false = (decide ((aF L e).pos < 0) && _)
  rw [decide_eq_false (by omega)]; rfl

theorem gX {x : Xs} {w : ByteArray} (ps : bG h p L hd x) (hq : ∀ h', Gr h h' → Q (.ret (.bool (x.is L [w])) h')) :
  aP Tryz.prog G X 38 [pV p, .string w] h Q := by
 obtain ⟨j, br, hj, ho, hl⟩ := ps.tok
 have hp := ps.lt
 have hk := ps.at_
 have hz := ps.wf.size
 have hget := iQ hk
 rw [Xs.aIg ps.wf, kI] at hq
 generalize aF L x.st.k = t at *
 generalize x.st.k = k at *
 generalize x.bad L = bd at *
 have e : dE [w] t.text = decide (t.text = w) := by simp [dE, eq_comm]
 rw [e] at hq
 refine Wk Tryz.func38 Tryz.ntmps38 (w:=?_)
 refine QN (Mb (w:=QL (QU (Gd [⟨0, .pure, 0⟩, ⟨1, .pure, 1⟩, ⟨2, .pure, 3⟩, ⟨3, .read, 7⟩, ⟨4, .pure, 0⟩, ⟨5, .pure, 16⟩, ⟨6, .pure, 48⟩, ⟨7, .read, 112⟩, ⟨8, .pure, 255⟩, ⟨9, .read, 511⟩, ⟨10, .alloc, 0⟩, ⟨11, .aC, 2047⟩] (w:=Da (w:=Di (w:=Dj (w:=Rt (w:=Da (w:=Di (w:=Dj (w:=Rt (w:=Dl (w:=?_))))))))))))));refine WD.read (hw := ?_)
 refine WS.lA (vs := t.cells) (hc := ?_) (hv' := ?_) (hk := ?_)
 (· rw [bD]; omega); (· rw [show 0 + (k : Int).toNat * 4 = k * 4 by omega, fR hget]; rfl)
 refine WD.alloc (hw := Qw ?_);refine WD.aC hX (hw := Qv ?_);refine WD.nil (hq:=QN (Ma (w:=Mi (w:=Mj (w:=Mt (w:=MF (w:=fun hh => Ma (w:=Mj (w:=Mt (w:=MD (w:=fun hh => Ma (w:=MA (w:=MA (w:=MA (w:=Mc (w:=Mc (w:=Ma (w:=Mj (w:=Mt (w:=Ma (w:=MB (w:=fun hh => Mc (w:=Mb (w:=QM ?_))) (v:=fun hh => Mc (w:=Mb (w:=QM ?_)))))))))))))) (v:=fun hh => Ma (w:=Mj (w:=Mt (w:=MD (w:=fun hh => Md (w:=Mc (w:=Ma (w:=Mj (w:=Mt (w:=Ma (w:=MB (w:=fun hh => Mc (w:=Mb (w:=QM ?_))) (v:=fun hh => Mc (w:=Mb (w:=QM ?_)))))))))) (v:=fun hh => Md (w:=Mc (w:=Ma (w:=MA (w:=MA (w:=MA (w:=MA (w:=Md (w:=Mb (w:=QM ?_)))))))))))))))))) (v:=fun hh => Ma (w:=MA (w:=MA (w:=MA (w:=MA (w:=MA (w:=MA (w:=MA (w:=MA (w:=Md (w:=Ma (w:=MA (w:=MA (w:=MA (w:=MA (w:=Md (w:=Mb (w:=QM ?_))))))))))))))))))))))))
 all_goals
  refine ⟨_, aJ, ?_⟩
  refine cF ?_ (hq _ cC)
  simp [*]

theorem eR {x : Xs} {w : ByteArray} {ws : List ByteArray} (hok : okW w ws = true) (hw : w.size ≤ 1000) (ps : bG h p L hd x) (hq : ∀ h', Gr h h' → Q (.ret (.bool (x.is L ws)) h')) :
  aP Tryz.prog G X 57 [pV p, .string w] h Q := by
 obtain ⟨j, br, hj, ho, hl⟩ := ps.tok
 have hp := ps.lt
 have hk := ps.at_
 have hz := ps.wf.size
 have hget := iQ hk
 have hnb := ps.wf.txt x.st.k
 have hts := ps.wf.small x.st.k
 rw [Xs.aIg ps.wf, kI] at hq
 generalize aF L x.st.k = t at *
 generalize x.st.k = k at *
 generalize x.bad L = bd at *
 refine Wk Tryz.func57 Tryz.ntmps57 (w:=?_)
 refine QN (Mb (w:=QL (QU (Gd [⟨0, .pure, 0⟩, ⟨1, .pure, 1⟩, ⟨2, .pure, 3⟩, ⟨3, .read, 7⟩, ⟨4, .pure, 0⟩, ⟨5, .pure, 16⟩, ⟨6, .pure, 48⟩, ⟨7, .read, 112⟩, ⟨8, .pure, 255⟩, ⟨9, .read, 511⟩, ⟨10, .alloc, 0⟩, ⟨11, .aC, 2047⟩] (w:=Da (w:=Di (w:=Dj (w:=Rt (w:=Da (w:=Di (w:=Dj (w:=Rt (w:=Dl (w:=?_))))))))))))));refine WD.read (hw := ?_)
 refine WS.lA (vs := t.cells) (hc := ?_) (hv' := ?_) (hk := ?_)
 (· rw [bD]; omega); (· rw [show 0 + (k : Int).toNat * 4 = k * 4 by omega, fR hget]; rfl)
 refine WD.alloc (hw := Qw ?_);refine WD.aC hX (hw := Qv ?_);refine WD.nil (hq:=QN (Ma (w:=Mi (w:=Mj (w:=Mt (w:=MF (w:=fun hh => Ma (w:=Mj (w:=Mt (w:=MD (w:=fun hh => Ma (w:=MA (w:=MA (w:=MA (w:=Mc (w:=Mc (w:=Ma (w:=Mj (w:=Mt (w:=Ma (w:=QK ?_))))))))))) (v:=fun hh => Ma (w:=Mj (w:=Mt (w:=MD (w:=fun hh => Md (w:=Mc (w:=Ma (w:=Mj (w:=Mt (w:=Ma (w:=QK ?_))))))) (v:=fun hh => Md (w:=Mc (w:=Ma (w:=MA (w:=MA (w:=MA (w:=MA (w:=Md (w:=Mb (w:=QM ?_)))))))))))))))))) (v:=fun hh => Ma (w:=MA (w:=MA (w:=MA (w:=MA (w:=MA (w:=MA (w:=MA (w:=MA (w:=Md (w:=Ma (w:=MA (w:=MA (w:=MA (w:=MA (w:=Md (w:=Mb (w:=QM ?_))))))))))))))))))))))))
 ·refine QJ uX ?_
  refine tC hok (hnb (.inl (by assumption))) (by omega) (hts (.inl (by assumption))) ?_
  refine Mc (w:=Mb (w:=QM ?_))
  refine ⟨_, aJ, ?_⟩
  refine cF ?_ (hq _ cC)
  simp [*]
 ·refine QJ uX ?_
  refine tC hok (hnb (.inr (by assumption))) (by omega) (hts (.inr (by assumption))) ?_
  refine Mc (w:=Mb (w:=QM ?_))
  refine ⟨_, aJ, ?_⟩
  refine cF ?_ (hq _ cC)
  simp [*]
 all_goals
  refine ⟨_, aJ, ?_⟩
  refine cF ?_ (hq _ cC)
  simp [*]

theorem lV {x : Xs} {t : ByteArray} (ps : bG h p L hd x)
  (hq : ∀ h', bG h' p L hd (x.got L t) → bB p h h' → Q (.ret (.bool (x.is L [t])) h')) :
  aP Tryz.prog G X 36 [pV p, .string t] h Q := by
 have hz := ps.wf.size
 have hk := ps.at_
 refine Wk Tryz.func36 Tryz.ntmps36 (w:=QN (Mb (w:=QO (Ma (w:=Ma (w:=MJ gY (w:=gX (aQ) fun h1 g1 => ?_)))))))
 have ps1 := ps.gr g1
 have hp := ps.lt
 have hn1 := g1.1
 (try simp only [aE.bX] at hn1)
 cases hb : x.is L [t]
 ·have he : x.got L t = x := by
   cases x with
   | live s => show Xs.live (jP L s t) = _; unfold jP; rw [show bA L s [t] = false from hb]; rfl
   | dead e s => rfl
  rw [he, hb] at hq
  refine Mb (w:=QL (QU (QN (Ma (w:=QP (UA (QN (Ma (w:=Mb (w:=QM ?_))))))))))
  refine ⟨_, aJ, ?_⟩
  exact hq _ aQ aI
 ·obtain ⟨s, rfl, hs⟩ := Xs.fZ hb
  have he : (Xs.live s).got L t = .live s.next := by show Xs.live (jP L s t) = _; unfold jP; rw [hs]; rfl
  rw [he, hb] at hq
  obtain ⟨_, j, br, hj, ho, hl⟩ := ps1.live
  refine Mb (w:=QL (QU (QN (Ma (w:=QQ (QV (Ma (w:=Mi (w:=Mj (w:=Mt (w:=Mf (w:=Mi (w:=Mj (w:=Mv (w:=QO (Ma (w:=Mb (w:=QM ?_))))))))))))))))))
  refine ⟨_, aJ, ?_⟩
  have hm := ps.wf.toWF.is hk hs
  exact hq _ aQ aI

theorem bO {x : Xs} {t : ByteArray} (ps : bG h p L hd x) (hq : aU (VW (aF L x.st.k)) p L hd h Q (x.run fun s => bI L s t)) :
  aP Tryz.prog G X 24 [pV p, .string t] h Q := by
 unfold bI at hq
 refine Wk Tryz.func24 Tryz.ntmps24 (w:=QN (Ma (w:=Ma (w:=MJ qX (w:=lV (hd := hd) (aQ) fun h1 ps1 fr1 => ?_)))))
 cases hb : x.is L [t]
 ·rw [Xs.lQ hb] at hq
  have he : x.got L t = x := by
   cases x with
   | live s => show Xs.live (jP L s t) = _; unfold jP; rw [show bA L s [t] = false from hb]; rfl
   | dead e s => rfl
  rw [he] at ps1
  refine Mb (w:=QO (Ma (w:=Me (w:=QQ (QV (Ma (w:=MJ oM (w:=eI (hd := hd) (aQ) fun h2 ps2 fr2 => ?_))))))))
  refine QL ?_
  refine ⟨_, aJ, ?_⟩
  exact hq.fail _ aQ aI ⟨rfl, rfl⟩
 ·obtain ⟨s, rfl, hs⟩ := Xs.fZ hb
  have he : (Xs.live s).got L t = .live s.next := by show Xs.live (jP L s t) = _; unfold jP; rw [hs]; rfl
  rw [he] at ps1
  rw [Xs.a8, if_pos hs] at hq
  refine Mb (w:=QO (Ma (w:=Me (w:=QP (UA ?_)))))
  refine ⟨_, aJ, ?_⟩
  exact aU.fin (x := .live s.next) hq aQ aI ⟨rfl, rfl⟩

theorem bG.aL3 {x : Xs} {sl hv br : Value} {k bd : Int} (ps : bG h p L hd x) (ho : h.obj p = some (.cells false [sl, .int .i64 k, .int .i64 bd, hv, br])) (hb : bd < 0) (hk : x.st.k + 1 < L.length) :
  bG (h.put p (some (.cells false [sl, .int .i64 (k + 1), .int .i64 bd, hv, br]))) p L hd (.live x.st.next) := by
 cases x with
 | dead e s =>
  obtain ⟨j, br0, hj, h1, h2⟩ := ps.tok
  have e := ho.symm.trans h1
  have := ps.dA
  cases e
  omega
 | live s => exact ps.aLj ho hk

theorem jH {x : Xs} (ps : bG h p L hd x) (hq : aU (VSt (aF L x.st.k)) p L hd h Q (x.run fun s => eD L s)) :
  aP Tryz.prog G X 37 [pV p] h Q := by
 unfold eD at hq
 have hz := ps.wf.size
 have hk := ps.at_
 have hp := ps.lt
 have hA : (¬ x.bad L < 0 ∨ (aF L x.st.k).kind ≠ 1) → ∀ h', bG h' p L hd x.fail → bB p h h' → Q (.ret (.string ⟨#[]⟩) h') := by
  intro hc h' ps' fr'
  cases x with
  | dead e s => exact hq.2 _ _ (Xs.dead e s) ⟨1, ⟨#[]⟩, 0, (aF L s.k).pos⟩ rfl ps' fr' ⟨rfl, rfl⟩
  | live s =>
   have hc : (aF L s.k).kind ≠ 1 := hc.elim (fun h => (h (show (-1 : Int) < 0 by omega)).elim) id
   rw [Xs.a8, if_neg hc] at hq
   exact aU.fail (x := .live s) hq ⟨1, ⟨#[]⟩, 0, (aF L s.k).pos⟩ ps' fr' ⟨rfl, rfl⟩
 have hB : x.bad L < 0 → (aF L x.st.k).kind = 1 → x.st.k + 1 < L.length ∧ ∀ h', bG h' p L hd (.live x.st.next) → bB p h h' → Q (.ret (.string (aF L x.st.k).text) h') := by
  intro hb hc
  refine ⟨ps.wf.toWF.more hk (by omega), fun h' ps' fr' => ?_⟩
  cases x with
  | dead e s => have := ps.dA; omega
  | live s =>
   have hc : (aF L s.k).kind = 1 := hc
   rw [Xs.a8, if_pos hc] at hq
   exact aU.fin (x := .live s.next) hq ps' fr' ⟨rfl, rfl⟩
 clear hq
 refine Wk Tryz.func37 Tryz.ntmps37 (w:=QN (Mb (w:=QO (Ma (w:=MJ gG (w:=cN (hd := hd) (aQ) fun h1 g1 => ?_))))))
 have ps1 : bG h1 p L hd x := aQ
 have hn1 := g1.1
 (try simp only [aE.bX] at hn1)
 obtain ⟨j, br, hj, ho, hl⟩ := ps1.tok
 have hnx := fun (h : aE) (sl hv br : Value) (k bd : Int) (ps : bG h p L hd x) (ho : h.obj p = some (.cells false [sl, .int .i64 k, .int .i64 bd, hv, br])) (hb : bd < 0) => bG.aL3 ps ho hb
 generalize aF L x.st.k = t at *
 have hB2 := fun h1 h2 => (hB h1 h2).2 
 have hB1 := fun h1 h2 => (hB h1 h2).1
 clear hB
 generalize x.st.next = sn at *
 generalize x.st.k = k at *
 generalize x.bad L = bd at *
 refine Mw (w:=Mv (w:=QL (QU (QN (Ma (w:=Mi (w:=Mj (w:=Mt (w:=MI (w:=fun hh => Ma (w:=MA (w:=MA (w:=MA (w:=Mc (w:=QQ (QN (Ma (w:=QK ?_))))))))) (v:=fun hh => Ma (w:=Mj (w:=Mt (w:=ME (w:=fun hh => Md (w:=QQ (QN (Ma (w:=QK ?_))))) (v:=fun hh => Md (w:=QP (UA (QN (Ma (w:=Mi (w:=Mj (w:=Mt (w:=Mf (w:=Mi (w:=Mj (w:=Mv (w:=QO (Mj (w:=Mt (w:=Mb (w:=QM ?_))))))))))))))))))))))))))))))
 ·refine QJ oM ?_
  refine eI (x := x) (L := L) (hd := hd) (aQ) fun h2 ps2 fr2 => ?_
  refine QO (Mb (w:=QM ?_))
  refine ⟨_, aJ, ?_⟩
  exact hA (.inl (by omega)) _ aQ aI
 ·refine QJ oM ?_
  refine eI (x := x) (L := L) (hd := hd) (aQ) fun h2 ps2 fr2 => ?_
  refine QO (Mb (w:=QM ?_))
  refine ⟨_, aJ, ?_⟩
  exact hA (.inr (by omega)) _ aQ aI
 ·refine ⟨_, aJ, ?_⟩
  refine hB2 (by omega) (by omega) _ ?_ aI
  exact hnx _ _ _ _ _ _ (aQ) aA (by omega) (hB1 (by omega) (by omega))

theorem aL9 {k : Nat} {t : Tok} (h : L[k]? = some t) : (cellsOf L)[k * 4]? = some (.int .i64 t.kind) := by
 have e := fR h
 have h2 : (((cellsOf L).drop (k * 4)).take 4)[0]? = some (.int .i64 t.kind) := by rw [e]; rfl
 rw [List.getElem?_take_of_lt (by omega), List.getElem?_drop] at h2
 exact h2
theorem aL2 {k : Nat} {t : Tok} (h : L[k]? = some t) : (cellsOf L)[k * 4 + 1]? = some (.string t.text) := by
 have e := fR h
 have h2 : (((cellsOf L).drop (k * 4)).take 4)[1]? = some (.string t.text) := by rw [e]; rfl
 rw [List.getElem?_take_of_lt (by omega), List.getElem?_drop] at h2
 exact h2

theorem wM {x : Xs} {w : ByteArray} (ps : bG h p L hd x) (hq : ∀ h', Gr h h' → Q (.ret (.bool (dL (aF L (x.st.k + 1)) w)) h')) :
  aP Tryz.prog G X 95 [pV p, .string w] h Q := by
 obtain ⟨j, br, hj, ho, hl⟩ := ps.tok
 have hp := ps.lt
 have hk := ps.at_
 have hz := ps.wf.size
 by_cases hm : x.st.k + 1 < L.length
 ·have hget := iQ hm
  have h0 := aL9 hget
  have h1 := aL2 hget
  unfold dL at hq
  generalize aF L (x.st.k + 1) = t at *
  generalize x.st.k = k at *
  refine Wk Tryz.func95 Tryz.ntmps95 (w:=?_)
  refine QN (Mb (w:=QL (QU (Gd [⟨0, .pure, 0⟩, ⟨1, .pure, 1⟩, ⟨2, .pure, 3⟩, ⟨3, .read, 7⟩, ⟨4, .pure, 15⟩, ⟨5, .pure, 0⟩, ⟨6, .pure, 32⟩, ⟨7, .pure, 96⟩, ⟨8, .read, 224⟩, ⟨9, .read, 480⟩, ⟨10, .pure, 1023⟩, ⟨11, .pure, 2047⟩, ⟨12, .pure, 4095⟩, ⟨13, .pure, 8191⟩, ⟨14, .pure, 16383⟩, ⟨15, .read, 32767⟩, ⟨16, .pure, 4095⟩, ⟨17, .pure, 69631⟩, ⟨18, .pure, 200703⟩, ⟨19, .read, 462847⟩, ⟨20, .pure, 987135⟩, ⟨21, .pure, 2097151⟩, ⟨22, .pure, 4194303⟩, ⟨23, .read, 8388607⟩, ⟨24, .pure, 16777215⟩, ⟨25, .pure, 33554431⟩, ⟨26, .pure, 67108863⟩, ⟨27, .pure, 134217727⟩, ⟨28, .pure, 268435455⟩, ⟨29, .pure, 536870911⟩, ⟨30, .read, 1073741823⟩, ⟨31, .pure, 134217727⟩, ⟨32, .pure, 2281701375⟩, ⟨33, .pure, 6576668671⟩, ⟨34, .read, 15166603263⟩, ⟨35, .pure, 32346472447⟩, ⟨36, .pure, 68719476735⟩, ⟨37, .pure, 137438953471⟩, ⟨38, .read, 274877906943⟩, ⟨39, .pure, 134217727⟩, ⟨40, .pure, 1099511627775⟩, ⟨41, .pure, 2199023255551⟩, ⟨42, .pure, 4398046511103⟩] (w:=Da (w:=Di (w:=Dj (w:=Rt (w:=Df (w:=Da (w:=Di (w:=Dj (w:=Rt (w:=Rs (w:=?_)))))))))))))));refine QW (k := QF ?_ ?_);intro hh;refine Da (w:=Da (w:=Di (w:=Dj (w:=Rt (w:=Da (w:=Di (w:=Dj (w:=Rt (w:=Df (w:=Dl (w:=Dj (w:=?_))))))))))));refine WD.read (hw := ?_);rotate_left;intro hh;exfalso;omega
  refine WS.jQ (v := .int .i64 t.kind) (hc := ?_) (hk := ?_)
  ·rw [show 0 + ((k : Int) + 1).toNat * 4 = (k + 1) * 4 by omega]; exact h0
  refine QW (k := QD ?_ ?_);intro hh;refine Dc (w:=Da (w:=Da (w:=Di (w:=Dj (w:=Rt (w:=Da (w:=Di (w:=Dj (w:=Rt (w:=Df (w:=Dl (w:=Dj (w:=?_)))))))))))));refine WD.read (hw := ?_);rotate_left;intro hh;refine Dc (w:=Da (w:=DA (w:=DA (w:=DA (w:=RA (w:=DA (w:=DA (w:=DA (w:=RA (w:=DA (w:=DA (w:=DA (w:=RA (w:=DA (w:=DA (w:=Dd (w:=Db (w:=WD.nil (hq:=WC.ret ?_)))))))))))))))))));rotate_left
  ·refine WS.jQ (v := .string t.text) (hc := ?_) (hk := ?_)
   ·rw [show 0 + ((k : Int) + 1).toNat * 4 + 1 = (k + 1) * 4 + 1 by omega]; exact h1
   refine Da (w:=?_);refine QW (k := QB ?_ ?_);intro hh;refine Dc (w:=Db (w:=WD.nil (hq:=WC.ret ?_)));rotate_left;intro hh;refine Dc (w:=Db (w:=WD.nil (hq:=WC.ret ?_)));rotate_left
   all_goals
    refine ⟨_, aJ, ?_⟩
    refine cF ?_ (hq _ cC)
    simp [*]
  all_goals
   refine ⟨_, aJ, ?_⟩
   refine cF ?_ (hq _ cC)
   simp [*]
 ·have ht : aF L (x.st.k + 1) = ⟨6, ⟨#[]⟩, 0, 0⟩ := by unfold aF; rw [List.getD_eq_getElem?_getD, List.getElem?_eq_none (by omega)]; rfl
  rw [ht] at hq
  generalize x.st.k = k at *
  refine Wk Tryz.func95 Tryz.ntmps95 (w:=?_)
  refine QN (Mb (w:=QL (QU (Gd [⟨0, .pure, 0⟩, ⟨1, .pure, 1⟩, ⟨2, .pure, 3⟩, ⟨3, .read, 7⟩, ⟨4, .pure, 15⟩, ⟨5, .pure, 0⟩, ⟨6, .pure, 32⟩, ⟨7, .pure, 96⟩, ⟨8, .read, 224⟩, ⟨9, .read, 480⟩, ⟨10, .pure, 1023⟩, ⟨11, .pure, 2047⟩, ⟨12, .pure, 4095⟩, ⟨13, .pure, 8191⟩, ⟨14, .pure, 16383⟩, ⟨15, .read, 32767⟩, ⟨16, .pure, 4095⟩, ⟨17, .pure, 69631⟩, ⟨18, .pure, 200703⟩, ⟨19, .read, 462847⟩, ⟨20, .pure, 987135⟩, ⟨21, .pure, 2097151⟩, ⟨22, .pure, 4194303⟩, ⟨23, .read, 8388607⟩, ⟨24, .pure, 16777215⟩, ⟨25, .pure, 33554431⟩, ⟨26, .pure, 67108863⟩, ⟨27, .pure, 134217727⟩, ⟨28, .pure, 268435455⟩, ⟨29, .pure, 536870911⟩, ⟨30, .read, 1073741823⟩, ⟨31, .pure, 134217727⟩, ⟨32, .pure, 2281701375⟩, ⟨33, .pure, 6576668671⟩, ⟨34, .read, 15166603263⟩, ⟨35, .pure, 32346472447⟩, ⟨36, .pure, 68719476735⟩, ⟨37, .pure, 137438953471⟩, ⟨38, .read, 274877906943⟩, ⟨39, .pure, 134217727⟩, ⟨40, .pure, 1099511627775⟩, ⟨41, .pure, 2199023255551⟩, ⟨42, .pure, 4398046511103⟩] (w:=Da (w:=Di (w:=Dj (w:=Rt (w:=Df (w:=Da (w:=Di (w:=Dj (w:=Rt (w:=Rs (w:=?_)))))))))))))));refine QW (k := QF ?_ ?_);intro hh;exfalso;omega;intro hh;refine Da (w:=DA (w:=DA (w:=DA (w:=RA (w:=DA (w:=DA (w:=DA (w:=RA (w:=DA (w:=DA (w:=DA (w:=RA (w:=DA (w:=Dd (w:=Da (w:=DA (w:=DA (w:=DA (w:=RA (w:=DA (w:=DA (w:=DA (w:=RA (w:=DA (w:=DA (w:=DA (w:=RA (w:=DA (w:=DA (w:=Dd (w:=Db (w:=WD.nil (hq:=WC.ret ?_)))))))))))))))))))))))))))))))))
  all_goals
   refine ⟨_, aJ, ?_⟩
   refine cF ?_ (hq _ cC)
   rfl

theorem kN (hq : ∀ h', Gr h h' → Q (.ret (.agg #[.int .i64 8, .string .empty, .int .i64 0, .int .i64 0, .string .empty, .int .i64 0, .slice none 0 0]) h')) :
  aP Tryz.prog G X 59 [] h Q := by
 refine Wk Tryz.func59 Tryz.ntmps59 (w:=QN (Mw (w:=QO (Mn (w:=Mv (w:=QM ?_))))))
 refine ⟨_, aJ, ?_⟩
 exact hq _ cC

theorem bN {kind pos : Int} {text : ByteArray} {b : Option Addr} {n es : Nat} 
  (hq : ∀ h', Gr h h' → Q (.ret (.agg #[.int .i64 kind, .string text, .int .i64 0, .int .i64 pos, .string .empty, .int .i64 0, .slice b n es]) h')) :
  aP Tryz.prog G X 40 [.int .i64 kind, .int .i64 pos, .string text, .slice b n es] h Q := by
 refine Wk Tryz.func40 Tryz.ntmps40 (w:=QN (Mw (w:=QO (Ma (w:=Ma (w:=Ma (w:=Ma (w:=Mn (w:=Mv (w:=QM ?_))))))))))
 refine ⟨_, aJ, ?_⟩
 exact hq _ cC

theorem z5 {t : Nd} {b : Option Addr} {n es : Nat} (hq : ∀ h', Gr h h' → Q (.ret (.bool (dY t)) h')) : aP Tryz.prog G X 111 [.agg (aH t b n es).toArray] h Q := by
 unfold dY oB at hq
 refine Wk Tryz.func111 Tryz.ntmps111 (w:=QN (Mx (w:=Mb (w:=QO (Mj (w:=Mt (w:=MD (w:=fun hh => Ma (w:=MA (w:=MA (w:=MA (w:=MA (w:=MA (w:=MA (w:=MA (w:=MA (w:=MA (w:=MA (w:=MA (w:=MA (w:=MA (w:=Mc (w:=Mb (w:=QM ?_))))))))))))))))) (v:=fun hh => Ma (w:=Mj (w:=Mt (w:=MD (w:=fun hh => Ma (w:=Mj (w:=Mt (w:=MC (w:=fun hh => Mc (w:=Ma (w:=Mj (w:=Mt (w:=MC (w:=fun hh => Mc (w:=Md (w:=Mb (w:=QM ?_)))) (v:=fun hh => Mc (w:=Md (w:=Mb (w:=QM ?_))))))))) (v:=fun hh => Mc (w:=Ma (w:=MA (w:=MA (w:=MA (w:=Md (w:=Md (w:=Mb (w:=QM ?_))))))))))))) (v:=fun hh => Ma (w:=MA (w:=MA (w:=MA (w:=Md (w:=Ma (w:=MA (w:=MA (w:=MA (w:=Md (w:=Md (w:=Mb (w:=QM ?_))))))))))))))))))))))))
 all_goals
  refine ⟨_, aJ, ?_⟩
  refine cF ?_ (hq _ cC)
  simp_all

theorem aBu {t : Tok} (hq : ∀ h', Gr h h' → Q (.ret (.int .i64 (level t)) h')) : aP Tryz.prog G X 126 [.agg t.cells.toArray] h Q := by
 refine Wk Tryz.func126 Tryz.ntmps126 (w:=QN (Mx (w:=Mb (w:=QL (QU (QN (Mj (w:=Mt (w:=ME (w:=fun hh => QQ (QN (Mb (w:=QM ?_)))) (v:=fun hh => QP (UA (QU (QN (Mj (w:=Mt (w:=QL (Bk (QN (MB (w:=fun hh => Mb (w:=QQ (QN (Mb (w:=QM ?_))))) (v:=fun hh => Mb (w:=QP (QN (MB (w:=fun hh => Mb (w:=QQ (QN (Mb (w:=QM ?_))))) (v:=fun hh => Mb (w:=QP (QU (QN (MB (w:=fun hh => Mb (w:=QQ (UA (QR (QN (Mb (w:=QM ?_))))))) (v:=fun hh => Mb (w:=QP (QN (MB (w:=fun hh => Mb (w:=QQ (UA (QR (QN (Mb (w:=QM ?_))))))) (v:=fun hh => Mb (w:=QP (QN (MB (w:=fun hh => Mb (w:=QQ (UA (QR (QN (Mb (w:=QM ?_))))))) (v:=fun hh => Mb (w:=QP (QN (MB (w:=fun hh => Mb (w:=QQ (UA (QR (QN (Mb (w:=QM ?_))))))) (v:=fun hh => Mb (w:=QP (QN (MB (w:=fun hh => Mb (w:=QQ (UA (QR (QN (Mb (w:=QM ?_))))))) (v:=fun hh => Mb (w:=QP (QV (MB (w:=fun hh => Mb (w:=QQ (QN (Mb (w:=QM ?_))))) (v:=fun hh => Mb (w:=QP (QU (QN (MB (w:=fun hh => Mb (w:=QQ (UA (QR (QN (Mb (w:=QM ?_))))))) (v:=fun hh => Mb (w:=QP (QV (MB (w:=fun hh => Mb (w:=QQ (QN (Mb (w:=QM ?_))))) (v:=fun hh => Mb (w:=QP (QU (QN (MB (w:=fun hh => Mb (w:=QQ (UA (QR (QN (Mb (w:=QM ?_))))))) (v:=fun hh => Mb (w:=QP (QN (MB (w:=fun hh => Mb (w:=QQ (UA (QR (QN (Mb (w:=QM ?_))))))) (v:=fun hh => Mb (w:=QP (QV (MB (w:=fun hh => Mb (w:=QQ (QN (Mb (w:=QM ?_))))) (v:=fun hh => Mb (w:=QP (UA (QN (Mb (w:=QM ?_))))))))))))))))))))))))))))))))))))))))))))))))))))))))))))))))))))))))))))
 all_goals (refine ⟨_, rfl, ?_⟩; have hx := hq (h.alloc (.cells false t.cells)) (Gr.alloc _ _); unfold level at hx; simp [dE, *] at hx; exact hx)

theorem aU.kH {α β : Type} {V : aE → α → Value → Prop} {W : aE → β → Value → Prop} {hd hd' : Bool} {h h1 : aE} {Q Q' : bW → Prop} {s : St} {F : St → R α} {g : α → St → R β} (fr : bB p h h1) (hq : aU W p L hd h Q ((F s).then g))
  (hok : ∀ a x' h2 v, bG h2 p L hd' x' → bB p h1 h2 → V h2 a v → aU W p L hd h Q (x'.run (g a)) → Q' (.ret v h2)) : aU V p L hd' h1 Q' ((Xs.live s).run F) := aU.use (x := .live s) fr hq hok
theorem aU.wB {α β : Type} {V : aE → α → Value → Prop} {W : aE → β → Value → Prop} {hd hd' : Bool} {h h1 : aE} {Q Q' : bW → Prop} {s : St} {F : St → R α} {g : α → St → R β} (fr : bB p h h1) (hq : aU W p L hd h Q ((F s).then g))
  (hok : ∀ a x' h2 v, bG h2 p L hd' x' → bB p h1 h2 → V h2 a v → aU W p L hd h Q (x'.run (g a)) → Q' (.ret v h2)) : aU V p L hd' h1 Q' (F s) := aU.use (x := .live s) fr hq hok
theorem Eu {β : Type} {W : aE → β → Value → Prop} {p m : Nat} {hd hd' : Bool} {h h1 : aE} {Q Q' : bW → Prop} {S : Nat → Prop} {x : Xs} {F : St → R (Nd)} {g : Nd → St → R β} (hq : aU W p L hd h Q (x.run fun s => (F s).then g)) (fr : bB p h h1 := by exact aI) (e : h1.next = m := by first | (simp only [UB, UC]; exact rfl) | (simp only [UB, UC]; done) | exact rfl) (k : ∀ t x' h2 b n es, bG h2 p L hd' x' → bB p h1 h2 → NV h2 S (aH t b n es) t → m ≤ h2.next → aU W p L hd h Q (x'.run (g t)) → Q' (.ret (.agg (aH t b n es).toArray) h2)) : aU (VN S) p L hd' h1 Q' (x.run F) :=
 aU.use fr hq fun t x' h2 v ps f2 hv hq2 => by obtain ⟨b, n, es, rfl, kv⟩ := hv; exact k t x' h2 b n es ps f2 kv (e ▸ f2.1) hq2
theorem Euk {β : Type} {W : aE → β → Value → Prop} {p m : Nat} {hd hd' : Bool} {h h1 : aE} {Q Q' : bW → Prop} {S : Nat → Prop} {x : Xs} {F : St → R (List Nd)} {g : List Nd → St → R β} (hq : aU W p L hd h Q (x.run fun s => (F s).then g)) (fr : bB p h h1 := by exact aI) (e : h1.next = m := by first | (simp only [UB, UC]; exact rfl) | (simp only [UB, UC]; done) | exact rfl) (k : ∀ t x' h2 b n es, bG h2 p L hd' x' → bB p h1 h2 → KV h2 S b n es t → m ≤ h2.next → aU W p L hd h Q (x'.run (g t)) → Q' (.ret (.slice b n es) h2)) : aU (VK S) p L hd' h1 Q' (x.run F) :=
 aU.use fr hq fun t x' h2 v ps f2 hv hq2 => by obtain ⟨b, n, es, rfl, kv⟩ := hv; exact k t x' h2 b n es ps f2 kv (e ▸ f2.1) hq2
theorem El {β : Type} {W : aE → β → Value → Prop} {p m : Nat} {hd hd' : Bool} {h h1 : aE} {Q Q' : bW → Prop} {S : Nat → Prop} {s : St} {F : St → R (Nd)} {g : Nd → St → R β} (hq : aU W p L hd h Q ((F s).then g)) (fr : bB p h h1 := by exact aI) (e : h1.next = m := by first | (simp only [UB, UC]; exact rfl) | (simp only [UB, UC]; done) | exact rfl) (k : ∀ t x' h2 b n es, bG h2 p L hd' x' → bB p h1 h2 → NV h2 S (aH t b n es) t → m ≤ h2.next → aU W p L hd h Q (x'.run (g t)) → Q' (.ret (.agg (aH t b n es).toArray) h2)) : aU (VN S) p L hd' h1 Q' ((Xs.live s).run F) :=
 aU.kH fr hq fun t x' h2 v ps f2 hv hq2 => by obtain ⟨b, n, es, rfl, kv⟩ := hv; exact k t x' h2 b n es ps f2 kv (e ▸ f2.1) hq2
theorem Elk {β : Type} {W : aE → β → Value → Prop} {p m : Nat} {hd hd' : Bool} {h h1 : aE} {Q Q' : bW → Prop} {S : Nat → Prop} {s : St} {F : St → R (List Nd)} {g : List Nd → St → R β} (hq : aU W p L hd h Q ((F s).then g)) (fr : bB p h h1 := by exact aI) (e : h1.next = m := by first | (simp only [UB, UC]; exact rfl) | (simp only [UB, UC]; done) | exact rfl) (k : ∀ t x' h2 b n es, bG h2 p L hd' x' → bB p h1 h2 → KV h2 S b n es t → m ≤ h2.next → aU W p L hd h Q (x'.run (g t)) → Q' (.ret (.slice b n es) h2)) : aU (VK S) p L hd' h1 Q' ((Xs.live s).run F) :=
 aU.kH fr hq fun t x' h2 v ps f2 hv hq2 => by obtain ⟨b, n, es, rfl, kv⟩ := hv; exact k t x' h2 b n es ps f2 kv (e ▸ f2.1) hq2
theorem aU.aI1 {α β : Type} {V : aE → α → Value → Prop} {W : aE → β → Value → Prop} {hd hd' : Bool} {h h1 : aE} {Q Q' : bW → Prop} {s : St} {F : St → R α} {g : α → St → R β} (fr : bB p h h1) (hq : aU W p L hd h Q ((F s).then g))
  (hok : ∀ a x' h2 v, bG h2 p L hd' x' → BrX h2 p x' → bB p h1 h2 → V h2 a v → aU W p L hd h Q (x'.run (g a)) → Q' (.ret v h2)) : dF V p L hd' h1 Q' ((Xs.live s).run F) := aU.aGx (x := .live s) fr hq hok
theorem dF.kH {α β : Type} {V : aE → α → Value → Prop} {W : aE → β → Value → Prop} {hd hd' : Bool} {h h1 : aE} {Q Q' : bW → Prop} {s : St} {F : St → R α} {g : α → St → R β} (fr : bB p h h1) (hq : dF W p L hd h Q ((F s).then g))
  (hok : ∀ a x' h2 v, bG h2 p L hd' x' → bB p h1 h2 → V h2 a v → dF W p L hd h Q (x'.run (g a)) → Q' (.ret v h2)) : aU V p L hd' h1 Q' ((Xs.live s).run F) := dF.use (x := .live s) fr hq hok
theorem aU.qL {α : Type} {V : aE → α → Value → Prop} {s : St} {a : α} (hq : aU V p L hd h Q (.ok a s)) {h' : aE} {v : Value} (ps : bG h' p L hd (.live s)) (fr : bB p h h') (hv : V h' a v) : Q (.ret v h') := aU.fin (x := .live s) hq ps fr hv
theorem aU.q6 {α : Type} {V : aE → α → Value → Prop} {s : St} (hq : aU V p L hd h Q (eA L s)) {h' : aE} {v : Value} (a : α) (ps : bG h' p L hd (Xs.live s).fail) (fr : bB p h h') (hv : V h' a v) : Q (.ret v h') := aU.fail (x := .live s) hq a ps fr hv
theorem Xs.gT {x : Xs} {t : ByteArray} (hb : x.is L [t] = false) : x.got L t = x := by
 cases x with
 | live s => show Xs.live (jP L s t) = _; unfold jP; rw [show bA L s [t] = false from hb]; rfl
 | dead e s => rfl
theorem Xs.iE {s : St} {t : ByteArray} (hs : bA L s [t] = true) : (Xs.live s).got L t = .live s.next := by show Xs.live (jP L s t) = _; unfold jP; rw [hs]; rfl
def XNl (f : FuncId) (spec : PF Nd) (ok : List Tok → St → Prop) : Prop := ∀ {p : Nat} {L : List Tok} {hd : Bool} {s : St} {h : aE} {Q : bW → Prop}, ok L s → bG h p L hd (.live s) → aU (VN (fun j => h.next ≤ j)) p L hd h Q (spec L hd s) → aP Tryz.prog G X f [pV p] h Q
def cK : List ByteArray := [⟨#[102, 111, 114]⟩, ⟨#[115, 119, 105, 116, 99, 104]⟩, ⟨#[115, 101, 108, 101, 99, 116]⟩]

theorem Xs.aA7 {α : Type} (x : Xs) (F : St → R α) : x.run F = x.run fun s => (F s).then fun a s => .ok a s := by congr 1; funext s; rw [R.bT]
theorem Xs.hY {α β : Type} {x : Xs} {ts : List ByteArray} (h : x.is L ts = false) (A B : St → R α) (g : α → St → R β) : (x.run fun s => (if bA L s ts then A s else B s).then g) = x.run fun s => (B s).then g := by
 rw [← Xs.dQ, Xs.lQ h, Xs.dQ]
theorem Xs.iA {α β : Type} {x : Xs} {ts : List ByteArray} (h : x.is L ts = true) (A B : St → R α) (g : α → St → R β) : (x.run fun s => (if bA L s ts then A s else B s).then g) = x.run fun s => (A s).then g := by
 rw [← Xs.dQ, Xs.tJ h, Xs.dQ]
theorem KV.aLl {S : Nat → Prop} {b : Option Addr} {es : Nat} {t1 t2 t3 : Nd} (kv : KV h S b 3 es [t1, t2, t3]) : KV h S b 2 es [t1, t2] := by
 rcases kv with ⟨_, h0, _⟩ | ⟨i, cells, rfl, h1, h2, rfl, h4, h5, h6, h7⟩
 ·cases h0
 ·refine .inr ⟨i, cells, rfl, h1, h2, rfl, rfl, h5, Nat.le_trans (by simp) h6, fun j t hj => h7 j t ?_⟩
  rcases j with _ | _ | j
  ·exact hj
  ·exact hj
  ·simp at hj
structure gE (r : Rec) : Prop where
 cW : XN 39 r.cW
 function : XK 41 r.function
 block : XN 60 r.block
 stmts : XK 79 r.stmts
 stmt : XNl 89 r.stmt (fun _ _ => True)
 nested : XNl 94 r.nested (fun L s => bA L s cK = true)
 branch : XNl 96 r.branch (fun L s => bA L s [⟨#[105, 102]⟩] = true)
 aBw : XNb 109 r.expr
 yI : XNb 112 r.unary
 mR : XNb 110 r.cS
 simple : XN 98 r.simple
 pH : ∀ L hd s, r.cW L hd s = r.cW L false s
 iS : ∀ L hd s, r.function L hd s = r.function L false s
theorem gE.expr {r : Rec} (c : gE r) : XN 109 r.expr := XNb.un c.aBw
theorem gE.unary {r : Rec} (c : gE r) : XN 112 r.unary := XNb.un c.yI
theorem gE.cS {r : Rec} (c : gE r) : XN 110 r.cS := XNb.un c.mR

theorem WC.fW {P : Program} {G : Nat} {X : fE} {n : Nat} {c : Code} {env : Env} {N : Env → aE → Prop} {E : Nat → Env → aE → Prop} {R : Env → aE → Prop} {F : List PanicEntry → aE → Prop} (id : Nat) (N' : Env → aE → Prop)
  (hw : WC P G X n (.loop c) env h N (fun i e h => i = id ∧ N' e h) R F) (hn : ∀ e h, N' e h → E id e h) : WC P G X n (.loop c) env h N E R F := by
 unfold WC at hw ⊢
 refine cP.mono hw fun x e h hx => ?_
 cases x with
 | normal => exact hx
 | exit i => obtain ⟨rfl, hx⟩ := hx; exact hn _ _ hx
 | ret => exact hx
 | panic ch => exact hx

theorem WS.jO {n : Nat} {F : List PanicEntry → aE → Prop} {env : Env} {lt : Bool} {ops : Array Oper} {d : Nat} {t : TypeId} {p : String} {a : Array Edge} {g : Option (Nat × Bool)} {K : Env → aE → (aE → Prop) → Prop}
  {ty ty' e : TypeId} {u : TypeDesc} {x y : Operand} {b b' : Option Addr} {n1 es n' es' bytes i : Nat} {S S2 : Nat → Prop} {kids : List Nd} {tr : Nd}
  (kv : KV h S b n1 es kids) (ho : h.obj i = some (.cells false (aH tr b' n' es'))) (nv : NV h S2 (aH tr b' n' es') tr) (hd : ∀ x, S2 x → x < h.next → S x ∧ ∀ off, b ≠ some ⟨x, off, none⟩)
  (hg : cX ops env g = some true) (hn : Nat.blt d n = true) (hx : aL G env x = some (.slice b n1 es)) (hy : aL G env y = some (.slice (some ⟨i, 0, none⟩) 1 7))
  (hu : Tryz.prog.underlying ty = some (.slice e)) (hu' : Tryz.prog.underlying ty' = some u) (hi : ∀ k, u ≠ .int k) (he : eV Tryz.prog e = some (7, bytes)) (hr : (n1 + 1) * bytes ≤ room)
  (hk : ∀ h', h'.next = h.next + 1 → (∀ j, ¬ S j → j < h.next → h'.obj j = h.obj j) → (∀ j, j < h.next → (∀ off, b ≠ some ⟨j, off, none⟩) → h'.obj j = h.obj j) →
   KV h' (fun x => S x ∨ x = h.next) (some ⟨h.next, 0, none⟩) (n1 + 1) 7 (kids ++ [tr]) → K (bE env d (.slice (some ⟨h.next, 0, none⟩) (n1 + 1) 7)) h' fun _ => False) :
  WS Tryz.prog G X n lt ops ⟨some d, .call ⟨.builtin .append, #[x, y], #[ty, ty']⟩, t, p, a, g⟩ env h K F := by
 have hb : ∀ j, ¬ S j → ∀ off, b ≠ some ⟨j, off, none⟩ := by
  intro j hj off eq
  rcases kv with ⟨rfl, _⟩ | ⟨i, cells, rfl, h1, _⟩
  ·cases eq
  ·cases eq; exact hj h1
 have hlen := kv.len
 obtain ⟨old, hsa, hol, hold⟩ := kv.sliceAt
 apply WS.append
 ·exact hg
 ·exact hn
 ·exact hx
 ·exact hy
 ·exact hu
 ·exact hu'
 ·exact hi
 ·exact he
 ·exact Nat.one_pos
 ·exact ho
 ·simp [aH]
 ·rfl
 ·exact hr
 ·rfl
 ·exact hsa
 intro h9 hn9 ho9 hf9
 refine hk h9 hn9 (fun j h1 h2 => hf9 j h2 (hb j h1)) hf9 ?_
 exact KV.snoc (h := h) (S2 := S2) hol (by omega) hold nv hn9 ho9 hf9 (.inr rfl) (fun x hx _ => .inl hx) fun x hx hlt => ⟨.inl (hd x hx hlt).1, (hd x hx hlt).2⟩

def w7 (n : Nat) (r : Rec) (tk : Tok) : PF Nd := fun L hd s => (bI L s ⟨#[40]⟩).then fun _ s =>
 (c6 L [⟨#[41]⟩] (fun kids s => (nF L s kids.isEmpty).then fun _ s => (r.cW L hd s).then fun x s => .ok (kids ++ [x]) s) n [] s).then fun kids s =>
 let s := s.next
 if bA L s dI then (r.cW L hd s).then fun x s => .ok (nd 15 tk ⟨#[]⟩ (kids ++ [x])) s
 else .ok (nd 15 tk ⟨#[]⟩ (kids ++ [aY])) s

theorem aHa {r : Rec} (c : gE r) : XN 60 (pJ r) := by
 intro p L hd x0 h Q ps hq0
 have hp := ps.lt
 unfold pJ at hq0
 refine Wk Tryz.func60 Tryz.ntmps60 (w:=QN (Mw (w:=QO (Ma (w:=MJ gG (w:=cN (L := L) (hd := hd) (x := x0) (aQ) fun h1 g1 => ?_))))))
 have hn1 := nx g1.1
 refine Mk (w:=Mb (w:=QO (Ma (w:=MJ dU (w:=bO (hd := hd) (aQ) (aU.use (hd' := hd) aI hq0 fun tk2 x2 h2 v2 ps2 fr2 hv2 hq2 => ?_))))))
 obtain ⟨rfl, rfl⟩ := hv2
 have hn2 := nx fr2.1
 refine QO (Ma (w:=MJ aJw (w:=c.stmts (hd := hd) (aQ) (Euk hq2 (k:=fun t3 x3 h3 b3 n3 es3 ps3 fr3 kv3 hn3 hq3 => ?_)))))
 refine Mb (w:=QO (Ma (w:=MJ dU (w:=bO (hd := hd) (aQ) (aU.use (hd' := hd) aI hq3 fun tk4 x4 h4 v4 ps4 fr4 hv4 hq4 => ?_)))))
 obtain ⟨rfl, rfl⟩ := hv4
 have hn4 := nx fr4.1
 refine QO (Ma (w:=Ma (w:=MJ cL (w:=bN fun h5 g5 => ?_))))
 have hn5 := nx g5.1
 refine Mv (w:=QM ?_)
 refine ⟨_, aJ, ?_⟩
 exact hq4.fin aQ aI ⟨_, _, _, rfl, NV.aN (kv3.kp) _ _ _ _ _ _⟩

theorem lW {s : St} {t : ByteArray} (h : bA L s [t] = true) : bI L s t = .ok (aF L s.k) s.next := by unfold bI; rw [if_pos h]
theorem vH {α : Type} {s : St} {kids : List Nd} {n : Nat} (hl : n = kids.length) (h0 : 0 < n) (f : Unit → St → R α) : (nF L s kids.isEmpty).then f = (bI L s ⟨#[44]⟩).then fun _ s => f () s := by
 have he : kids.isEmpty = false := by cases kids with
  | nil => simp at hl; omega
  | cons a l => rfl
 unfold nF
 rw [he, if_neg Bool.false_ne_true, R.then_assoc]
 rfl
theorem uZ {α : Type} {s : St} {kids : List Nd} {n : Nat} (hl : n = kids.length) (h0 : ¬ 0 < n) (f : Unit → St → R α) : (nF L s kids.isEmpty).then f = f () s := by
 have he : kids.isEmpty = true := by cases kids with
  | nil => rfl
  | cons a l => simp at hl; omega
 unfold nF
 rw [he, if_pos rfl]
 rfl

theorem aGs {r : Rec} {n : Nat} (hn : n ≤ 1000000) (c : gE r) {p : Nat} {L : List Tok} {hd : Bool} {x0 : Xs} {h : aE} {Q : bW → Prop} {tk : Tok} (ps : bG h p L hd x0)
  (hq0 : aU (VN (fun j => h.next ≤ j)) p L hd h Q (x0.run (w7 n r tk L hd))) : aP Tryz.prog G X 58 [pV p, .int .i64 tk.pos] h Q := by
 have hp := ps.lt
 have hz := ps.wf.size
 unfold w7 at hq0
 refine Wk Tryz.func58 Tryz.ntmps58 (w:=QN (Mw (w:=QO (Ma (w:=MJ dU (w:=bO (hd := hd) (aQ) (aU.use (hd' := hd) aI hq0 fun tk1 x1 h1 v1 ps1 fr1 hv1 hq1 => ?_)))))))
 obtain ⟨rfl, rfl⟩ := hv1
 have hn1 := nx fr1.1
 refine QO (Mb (w:=QL (QU (Bk ?_))))
 refine WC.fW 0 (fun e h' => ∃ x kids b n es, e 0 = some (pV p) ∧ e 1 = some (.int .i64 tk.pos) ∧ e 4 = some (.pointer (some ⟨h.next, 0, none⟩)) ∧ e 5 = some (.slice b n es) ∧ bG h' p L hd x ∧ bB p h h' ∧ h'.obj h.next = some (Z0) ∧ h.next < h'.next ∧ kids.length ≤ 1000000 ∧
  KV h' (fun j => h.next < j) b n es kids ∧ aU (VN fun j => h.next ≤ j) p L hd h Q (x.run fun s => (bI L s ⟨#[41]⟩).then fun _ s => if bA L s dI then (r.cW L hd s).then fun x s => .ok (nd 15 tk ⟨#[]⟩ (kids ++ [x])) s else .ok (nd 15 tk ⟨#[]⟩ (kids ++ [aY])) s)) ?_ ?_
 ·refine WC.bK hX (α := Nat × List Nd × Xs) (m := fun a => a.1) (Inv := fun a e h' => ∃ b n' es, e 0 = some (pV p) ∧ e 1 = some (.int .i64 tk.pos) ∧ e 4 = some (.pointer (some ⟨h.next, 0, none⟩)) ∧ e 5 = some (.slice b n' es) ∧ bG h' p L hd a.2.2 ∧ bB p h h' ∧ h'.obj h.next = some (Z0) ∧ h.next < h'.next ∧ a.1 + a.2.1.length ≤ n ∧
   KV h' (fun j => h.next < j) b n' es a.2.1 ∧ aU (VN fun j => h.next ≤ j) p L hd h Q (a.2.2.run fun s => (c6 L [⟨#[41]⟩] (fun kids s => (nF L s kids.isEmpty).then fun _ s => (r.cW L hd s).then fun x s => .ok (kids ++ [x]) s) a.1 a.2.1 s).then fun kids s =>
     if bA L s.next dI then (r.cW L hd s.next).then fun x s => .ok (nd 15 tk ⟨#[]⟩ (kids ++ [x])) s else .ok (nd 15 tk ⟨#[]⟩ (kids ++ [aY])) s.next))
   (n, [], x1) ⟨none, 0, 0, rfl, rfl, rfl, rfl, aQ, aI, aA, aB, by simp, KV.nil _ _, hq1⟩ ?_
  rintro ⟨m, kids, x5⟩ env h5 ih ⟨b5, n5, es5, e0, e1, e4, e5, ps5, fr5, ho5, hn5, hm5, kv5, hq5⟩
  simp only at ps5 hm5 kv5 hq5
  have hnn5 := fr5.1
  have hl5 := kv5.len
  obtain ⟨j5, br5, hj5, hp5, hl5'⟩ := ps5.tok
  cases x5 with
  | dead e s =>
   have hb5 := ps5.dA
   generalize hbd : Xs.bad L (Xs.dead e s) = bd at *
   refine QU (QN (Ma (w:=Mi (w:=Mj (w:=Mt (w:=MF (w:=fun hh => by omega) (v:=fun hh => Ma (w:=MA (w:=MA (w:=MA (w:=Md (w:=QP (WC.exit ?_)))))))))))))
   exact ⟨rfl, Xs.dead e s, kids, b5, n5, es5, e0, e1, e4, e5, ps5, fr5, ho5, hn5, by omega, kv5, hq5⟩
  | live s5 =>
   have hb5 : Xs.bad L (Xs.live s5) = -1 := rfl
   rw [hb5] at hp5
   obtain ⟨m, rfl⟩ : ∃ m', m = m' + 1 := by
    cases m with
    | zero => exact (hq5.1 rfl).elim
    | succ m => exact ⟨m, rfl⟩
   rw [Xs.a8] at hq5
   unfold c6 at hq5
   refine QU (QN (Ma (w:=Mi (w:=Mj (w:=Mt (w:=MF (w:=fun hh => Ma (w:=Ma (w:=MJ gY (w:=gX (L := L) (hd := hd) (x := .live s5) (aQ) fun h6 g6 => ?_)))) (v:=fun hh => by omega)))))))
   have hn6 := nx g6.1
   cases hb6 : Xs.is L [⟨#[41]⟩] (.live s5)
   ·have hs6 : bA L s5 [⟨#[41]⟩] = false := hb6
    rw [hs6, if_neg Bool.false_ne_true] at hq5
    simp only [R.then_assoc, R.then_ok] at hq5
    refine Me (w:=Mc (w:=QQ (UA (Bk (QU (QN (Ma (w:=Ms (w:=MH (w:=fun hh => QQ (QV (Ma (w:=QK ?_)))) (v:=fun hh => QP (UA (QN (Ma (w:=QK ?_))))))))))))))
    ·rw [vH hl5 (by omega)] at hq5
     refine QJ dU ?_
     refine bO (hd := hd) (aQ) (aU.kH (hd' := hd) aI hq5 fun tk7 x7 h7 v7 ps7 fr7 hv7 hq7 => ?_)
     obtain ⟨rfl, rfl⟩ := hv7
     have hn7 := nx fr7.1
     refine QO (Ma (w:=MJ r4 (w:=c.cW (hd := hd) (aQ) (Eu hq7 (k:=fun t8 x8 h8 b8 n8 es8 ps8 fr8 kv8 hn8 hq8 => ?_)))))
     refine Mw (w:=Mv (w:=QL (QV (Ma (w:=Mu (w:=Mz (w:=QK ?_)))))))
     refine WS.jO (S := fun j => h.next < j) (S2 := fun j => h5.next ≤ j) (tr := t8) (kv5.kp) aA (kv8.kp) (fun x hx _ => ⟨by omega, kv5.ge x hx⟩) rfl rfl aD aD rfl rfl (by intro k hk; cases hk) (aX rfl) (by unfold room; omega) ?_
     intro h9 hn9 hk9 hf9 kv9
     simp only [UB, UC] at hn9 hk9 hf9 kv9
     have ps9 : bG h9 p L hd x8 := bG.bH (aQ) aB fun j hj => hk9 j (by omega) (by omega)
     have fr9 : bB p h h9 := bB.bH aI aB fun j hj => hk9 j (by omega) (by omega)
     have ho9 : h9.obj h.next = some (Z0) := (hk9 _ (by omega) (by omega)).trans aA
     refine Mb (w:=QL ?_)
     exact ih (m, kids ++ [t8], x8) _ _ (by simp) ⟨_, _, _, e0, e1, e4, rfl, ps9, fr9, ho9, by omega, by simp; omega, kv9.mono (Nat.le_refl _) (fun j hj _ => ⟨by omega, rfl⟩), hq8⟩
    ·rw [uZ hl5 (by omega)] at hq5
     refine QJ r4 ?_
     refine c.cW (hd := hd) (aQ) (El hq5 (k:=fun t8 x8 h8 b8 n8 es8 ps8 fr8 kv8 hn8 hq8 => ?_))
     refine Mw (w:=Mv (w:=QL (QV (Ma (w:=Mu (w:=Mz (w:=QK ?_)))))))
     refine WS.jO (S := fun j => h.next < j) (S2 := fun j => h5.next ≤ j) (tr := t8) (kv5.kp) aA (kv8.kp) (fun x hx _ => ⟨by omega, kv5.ge x hx⟩) rfl rfl aD aD rfl rfl (by intro k hk; cases hk) (aX rfl) (by unfold room; omega) ?_
     intro h9 hn9 hk9 hf9 kv9
     simp only [UB, UC] at hn9 hk9 hf9 kv9
     have ps9 : bG h9 p L hd x8 := bG.bH (aQ) aB fun j hj => hk9 j (by omega) (by omega)
     have fr9 : bB p h h9 := bB.bH aI aB fun j hj => hk9 j (by omega) (by omega)
     have ho9 : h9.obj h.next = some (Z0) := (hk9 _ (by omega) (by omega)).trans aA
     refine Mb (w:=QL ?_)
     exact ih (m, kids ++ [t8], x8) _ _ (by simp) ⟨_, _, _, e0, e1, e4, rfl, ps9, fr9, ho9, by omega, by simp; omega, kv9.mono (Nat.le_refl _) (fun j hj _ => ⟨by omega, rfl⟩), hq8⟩
   ·have hs6 : bA L s5 [⟨#[41]⟩] = true := hb6
    rw [hs6, if_pos rfl, R.then_ok] at hq5
    refine Me (w:=Mc (w:=QP (WC.exit ?_)))
    exact ⟨rfl, .live s5, kids, b5, n5, es5, e0, e1, e4, e5, aQ, aI, aA, aB, by omega, kv5.kp, by rw [Xs.a8, lW hs6]; exact hq5⟩
 ·rintro e h9 ⟨x9, kids, b9, n9, es9, e0, e1, e4, e5, ps9, fr9, ho9, hn9, hl9, kv9, hq9⟩
  have hnn9 := fr9.1
  have hlen9 := kv9.len
  refine aG (QN (Ma (w:=MJ dU (w:=bO (hd := hd) (aQ) (aU.use (hd' := hd) aI hq9 fun tk2 x2 h2 v2 ps2 fr2 hv2 hq2 => ?_)))))
  obtain ⟨rfl, rfl⟩ := hv2
  have hn2 := nx fr2.1
  refine QO (MJ tI (w:=kN fun h3 g3 => ?_))
  have hn3 := nx g3.1
  refine Mw (w:=Mv (w:=QL (QU (QN (Ma (w:=MJ o7 (w:=eR (L := L) (hd := hd) (x := x2) (ws := dI) (by decide +kernel) (by decide) (aQ) fun h4 g4 => ?_)))))))
  have hn4 := nx g4.1
  cases hb4 : Xs.is L dI x2
  ·rw [Xs.lQ hb4] at hq2
   refine QP (UA (QN (Ma (w:=Mu (w:=Mz (w:=QK ?_))))))
   refine WS.jO (S := fun j => h.next < j) (S2 := fun j => h9.next ≤ j) (tr := aY) (kv9.kp) aA (NV.leaf _ _ _ _ _ _) (fun x hx _ => ⟨by omega, kv9.ge x hx⟩) rfl rfl aD aD rfl rfl (by intro k hk; cases hk) (aX rfl) (by unfold room; omega) ?_
   intro hA hnA hkA hfA kvA
   simp only [UB, UC] at hnA hkA hfA kvA
   have psA : bG hA p L hd x2 := bG.bH (aQ) aB fun j hj => hkA j (by omega) (by omega)
   have frA : bB p h hA := bB.bH aI aB fun j hj => hkA j (by omega) (by omega)
   have hoA : hA.obj h.next = some (Z0) := (hkA _ (by omega) (by omega)).trans aA
   refine Mb (w:=QO (Ma (w:=Ma (w:=MJ cL (w:=bN fun h12 g12 => ?_)))))
   have hn12 := nx g12.1
   refine Mv (w:=QM ?_)
   refine ⟨_, aJ, ?_⟩
   exact hq2.fin aQ aI ⟨_, _, _, rfl, NV.aN (kvA.kp) _ _ _ _ _ _⟩
  ·obtain ⟨s4, rfl, hs4⟩ := Xs.fZ hb4
   rw [Xs.a8, if_pos hs4] at hq2
   refine QQ (QV (Ma (w:=MJ r4 (w:=c.cW (hd := hd) (aQ) (El hq2 (k:=fun t5 x5 h5 b5 n5 es5 ps5 fr5 kv5 hn5 hq5 => ?_))))))
   refine Mv (w:=QO (Ma (w:=Mu (w:=Mz (w:=QK ?_)))))
   refine WS.jO (S := fun j => h.next < j) (S2 := fun j => h9.next ≤ j) (tr := t5) (kv9.kp) aA (kv5.kp) (fun x hx _ => ⟨by omega, kv9.ge x hx⟩) rfl rfl aD aD rfl rfl (by intro k hk; cases hk) (aX rfl) (by unfold room; omega) ?_
   intro hA hnA hkA hfA kvA
   simp only [UB, UC] at hnA hkA hfA kvA
   have psA : bG hA p L hd x5 := bG.bH (aQ) aB fun j hj => hkA j (by omega) (by omega)
   have frA : bB p h hA := bB.bH aI aB fun j hj => hkA j (by omega) (by omega)
   have hoA : hA.obj h.next = some (Z0) := (hkA _ (by omega) (by omega)).trans aA
   refine Mb (w:=QO (Ma (w:=Ma (w:=MJ cL (w:=bN fun h12 g12 => ?_)))))
   have hn12 := nx g12.1
   refine Mv (w:=QM ?_)
   refine ⟨_, aJ, ?_⟩
   exact hq5.fin aQ aI ⟨_, _, _, rfl, NV.aN (kvA.kp) _ _ _ _ _ _⟩

theorem aLy {r : Rec} {n : Nat} (hn : n ≤ 1000000) (c : gE r) : XN 39 (vS n r) := by
 intro p L hd x0 h Q ps hq0
 have hp := ps.lt
 have hz := ps.wf.size
 unfold vS at hq0
 refine Wk Tryz.func39 Tryz.ntmps39 (w:=QN (Mw (w:=QO (Ma (w:=MJ gG (w:=cN (L := L) (hd := hd) (x := x0) (aQ) fun h1 g1 => ?_))))))
 have hn1 := nx g1.1
 refine Mk (w:=Mb (w:=QL (QU (QN (Ma (w:=MJ o7 (w:=eR (L := L) (hd := hd) (x := x0) (ws := dI) (by decide +kernel) (by decide) (aQ) fun h2 g2 => ?_)))))))
 have hn2 := nx g2.1
 cases hb2 : Xs.is L dI x0
 ·rw [Xs.lQ hb2] at hq0
  refine Me (w:=QQ (QN (Ma (w:=MJ oM (w:=eI (L := L) (hd := hd) (x := x0) (aQ) fun h3 ps3 fr3 => ?_)))))
  have hn3 := nx fr3.1
  refine Mv (w:=QM ?_)
  refine ⟨_, aJ, ?_⟩
  exact hq0.fail eY aQ aI ⟨_, _, _, rfl, NV.leaf _ _ _ _ _ _⟩
 ·obtain ⟨s2, rfl, hs2⟩ := Xs.fZ hb2
  rw [Xs.a8, if_pos hs2] at hq0
  refine Me (w:=QP (UA (QN (Ma (w:=MJ gG (w:=cN (L := L) (hd := hd) (x := .live s2) (aQ) fun h3 g3 => ?_))))))
  have hn3 := nx g3.1
  obtain ⟨hk3, j3, br3, hj3, ho3, hl3⟩ := bG.live (show bG (h3) p L hd (.live s2) from aQ)
  have hm3 := ps.wf.toWF.is hk3 hs2
  simp only at hq0
  generalize aF L s2.k = tk at *
  refine Mk (w:=Mb (w:=QO (Ma (w:=Mi (w:=Mj (w:=Mt (w:=Mf (w:=Mi (w:=Mj (w:=Mv (w:=QL (QU (QN (Ma (w:=QL (Bk (QN (MB (w:=fun hh => Mb (w:=QQ (QN (Ma (w:=QK ?_))))) (v:=fun hh => Mb (w:=QP (QN (MB (w:=fun hh => Mb (w:=QQ (QN (Ma (w:=QK ?_))))) (v:=fun hh => Mb (w:=QP (QN (MB (w:=fun hh => Mb (w:=QQ (QN (Ma (w:=QK ?_))))) (v:=fun hh => Mb (w:=QP (QN (MB (w:=fun hh => Mb (w:=QQ (QN (Ma (w:=QK ?_))))) (v:=fun hh => Mb (w:=QP (QN (MB (w:=fun hh => Mb (w:=QQ (QN (Ma (w:=QK ?_))))) (v:=fun hh => Mb (w:=QP (QN (MB (w:=fun hh => Mb (w:=QQ (QN (Ma (w:=QK ?_))))) (v:=fun hh => Mb (w:=QP (UA (QN (Ma (w:=Ma (w:=QK ?_)))))))))))))))))))))))))))))))))))))))))))))
  all_goals (repeat (first | rw [if_pos (by assumption)] at hq0 | rw [if_neg (by assumption)] at hq0))
  ·refine QJ cL ?_
   refine bN fun h4 g4 => ?_
   have hn4 := nx g4.1
   refine Mv (w:=QM ?_)
   refine ⟨_, aJ, ?_⟩
   exact hq0.qL aQ aI ⟨_, _, _, rfl, NV.aN (KV.nil _ _) _ _ _ _ _ _⟩
  ·refine QJ cL ?_
   refine bN fun h4 g4 => ?_
   have hn4 := nx g4.1
   refine Mv (w:=QM ?_)
   refine ⟨_, aJ, ?_⟩
   exact hq0.qL aQ aI ⟨_, _, _, rfl, NV.aN (KV.nil _ _) _ _ _ _ _ _⟩
  ·refine QJ cL ?_
   refine bN fun h4 g4 => ?_
   have hn4 := nx g4.1
   refine Mv (w:=QM ?_)
   refine ⟨_, aJ, ?_⟩
   exact hq0.qL aQ aI ⟨_, _, _, rfl, NV.aN (KV.nil _ _) _ _ _ _ _ _⟩
  ·refine QJ q7 ?_
   refine jH (hd := hd) (aQ) (aU.kH (hd' := hd) aI hq0 fun tk5 x5 h5 v5 ps5 fr5 hv5 hq5 => ?_)
   obtain ⟨rfl, hp5⟩ := hv5
   have hn5 := nx fr5.1
   refine Mb (w:=QO (Ma (w:=Ma (w:=MJ cL (w:=bN fun h6 g6 => ?_)))))
   have hn6 := nx g6.1
   refine Mv (w:=QM ?_)
   refine ⟨_, aJ, ?_⟩
   exact hq5.fin aQ aI ⟨_, _, _, rfl, NV.aN (KV.nil _ _) _ _ _ _ _ _⟩
  ·refine QJ dU ?_
   refine bO (hd := hd) (aQ) (aU.kH (hd' := hd) aI hq0 fun tk5 x5 h5 v5 ps5 fr5 hv5 hq5 => ?_)
   obtain ⟨rfl, rfl⟩ := hv5
   have hn5 := nx fr5.1
   refine QO (Ma (w:=MJ r4 (w:=c.cW (hd := hd) (aQ) (Eu hq5 (k:=fun t6 x6 h6 b6 n6 es6 ps6 fr6 kv6 hn6 hq6 => ?_)))))
   refine Mw (w:=Mv (w:=QO (Ma (w:=Mu (w:=Mz (w:=MJ cL (w:=bN fun h7 g7 => ?_)))))))
   have hn7 := nx g7.1
   refine Mv (w:=QM ?_)
   refine ⟨_, aJ, ?_⟩
   exact hq6.fin aQ aI ⟨_, _, _, rfl, NV.aN (KV.one (S := fun j => h.next ≤ j ∧ j < h6.next) aB aB aA (kv6.kp) (fun j hS hj => ⟨hS.1, by have := hS.2; exact aB⟩)) _ _ _ _ _ _⟩
  ·refine QJ r4 ?_
   refine c.cW (hd := hd) (aQ) (El hq0 (k:=fun t6 x6 h6 b6 n6 es6 ps6 fr6 kv6 hn6 hq6 => ?_))
   refine Mw (w:=Mv (w:=QO (Ma (w:=Mu (w:=Mz (w:=MJ cL (w:=bN fun h7 g7 => ?_)))))))
   have hn7 := nx g7.1
   refine Mv (w:=QM ?_)
   refine ⟨_, aJ, ?_⟩
   exact hq6.fin aQ aI ⟨_, _, _, rfl, NV.aN (KV.one (S := fun j => h.next ≤ j ∧ j < h6.next) aB aB aA (kv6.kp) (fun j hS hj => ⟨hS.1, by have := hS.2; exact aB⟩)) _ _ _ _ _ _⟩
  ·refine QJ aM3 ?_
   change aU _ p L hd h Q (w7 n r tk L hd s2.next) at hq0
   rw [← R.bT (w7 n r tk L hd s2.next)] at hq0
   refine aGs hn c (x0 := .live s2.next) (aQ) (El (hd' := hd) hq0 (k:=fun t6 x6 h6 b6 n6 es6 ps6 fr6 kv6 hn6 hq6 => ?_))
   refine Mv (w:=QM ?_)
   refine ⟨_, aJ, ?_⟩
   exact hq6.fin aQ aI ⟨_, _, _, rfl, (kv6.kp)⟩

def VKl (S : Nat → Prop) (h : aE) (t : List Nd) (v : Value) : Prop := VK S h t v ∧ t.length ≤ 1000000
theorem aBs {r : Rec} {n : Nat} (hn : n ≤ 1000000) (c : gE r) {p : Nat} {L : List Tok} {hd : Bool} {x0 : Xs} {h : aE} {Q : bW → Prop} {w : ByteArray} (ps : bG h p L hd x0)
  (hq0 : aU (VKl (fun j => h.next ≤ j)) p L hd h Q (x0.run (dV n r w L hd))) : aP Tryz.prog G X 128 [pV p, .string w] h Q := by
 have hp := ps.lt
 have hz := ps.wf.size
 unfold dV at hq0
 refine Wk Tryz.func128 Tryz.ntmps128 (w:=QN (Mb (w:=QO (Mb (w:=QL (QU (Bk ?_)))))))
 refine WC.fW 0 (fun e h' => ∃ x kids b n es, e 0 = some (pV p) ∧ e 1 = some (.string w) ∧ e 5 = some (.slice b n es) ∧ bG h' p L hd x ∧ bB p h h' ∧ h.next ≤ h'.next ∧ kids.length ≤ 1000000 ∧
  KV h' (fun j => h.next ≤ j) b n es kids ∧ aU (VKl fun j => h.next ≤ j) p L hd h Q (x.run fun s => (bI L s w).then fun _ s => .ok kids s)) ?_ ?_
 ·refine WC.bK hX (α := Nat × List Nd × Xs) (m := fun a => a.1) (Inv := fun a e h' => ∃ b n' es, e 0 = some (pV p) ∧ e 1 = some (.string w) ∧ e 5 = some (.slice b n' es) ∧ bG h' p L hd a.2.2 ∧ bB p h h' ∧ h.next ≤ h'.next ∧ a.1 + a.2.1.length ≤ n ∧
   KV h' (fun j => h.next ≤ j) b n' es a.2.1 ∧ aU (VKl fun j => h.next ≤ j) p L hd h Q (a.2.2.run fun s => (c6 L [w] (fun kids s => (nF L s kids.isEmpty).then fun _ s => (r.expr L hd s).then fun x s => .ok (kids ++ [x]) s) a.1 a.2.1 s).then fun kids s => .ok kids s.next))
   (n, [], x0) ⟨none, 0, 0, rfl, rfl, rfl, aQ, aI, aB, by simp, KV.nil _ _, hq0⟩ ?_
  rintro ⟨m, kids, x5⟩ env h5 ih ⟨b5, n5, es5, e0, e1, e5, ps5, fr5, hn5, hm5, kv5, hq5⟩
  simp only at ps5 hm5 kv5 hq5
  have hnn5 := fr5.1
  have hl5 := kv5.len
  obtain ⟨j5, br5, hj5, hp5, hl5'⟩ := ps5.tok
  cases x5 with
  | dead e s =>
   have hb5 := ps5.dA
   generalize hbd : Xs.bad L (Xs.dead e s) = bd at *
   refine QU (QN (Ma (w:=Mi (w:=Mj (w:=Mt (w:=MF (w:=fun hh => by omega) (v:=fun hh => Ma (w:=MA (w:=MA (w:=MA (w:=MA (w:=Md (w:=QP (WC.exit ?_))))))))))))))
   exact ⟨rfl, Xs.dead e s, kids, b5, n5, es5, e0, e1, e5, ps5, fr5, hn5, by omega, kv5, hq5⟩
  | live s5 =>
   have hb5 : Xs.bad L (Xs.live s5) = -1 := rfl
   rw [hb5] at hp5
   obtain ⟨m, rfl⟩ : ∃ m', m = m' + 1 := by
    cases m with
    | zero => exact (hq5.1 rfl).elim
    | succ m => exact ⟨m, rfl⟩
   rw [Xs.a8] at hq5
   unfold c6 at hq5
   refine QU (QN (Ma (w:=Mi (w:=Mj (w:=Mt (w:=MF (w:=fun hh => Ma (w:=Ma (w:=Ma (w:=MJ gY (w:=gX (L := L) (hd := hd) (x := .live s5) (aQ) fun h6 g6 => ?_))))) (v:=fun hh => by omega)))))))
   have hn6 := nx g6.1
   cases hb6 : Xs.is L [w] (.live s5)
   ·have hs6 : bA L s5 [w] = false := hb6
    rw [hs6, if_neg Bool.false_ne_true] at hq5
    simp only [R.then_assoc, R.then_ok] at hq5
    refine Me (w:=Mc (w:=QQ (UA (Bk (QU (QN (Ma (w:=Ms (w:=MH (w:=fun hh => QQ (QV (Ma (w:=QK ?_)))) (v:=fun hh => QP (UA (QN (Ma (w:=QK ?_))))))))))))))
    ·rw [vH hl5 (by omega)] at hq5
     refine QJ dU ?_
     refine bO (hd := hd) (aQ) (aU.kH (hd' := hd) aI hq5 fun tk7 x7 h7 v7 ps7 fr7 hv7 hq7 => ?_)
     obtain ⟨rfl, rfl⟩ := hv7
     have hn7 := nx fr7.1
     refine QO (Ma (w:=MJ iW (w:=c.expr (hd := hd) (aQ) (Eu hq7 (k:=fun t8 x8 h8 b8 n8 es8 ps8 fr8 kv8 hn8 hq8 => ?_)))))
     refine Mw (w:=Mv (w:=QL (QV (Ma (w:=Mu (w:=Mz (w:=QK ?_)))))))
     refine WS.jO (S := fun j => h.next ≤ j) (S2 := fun j => h5.next ≤ j) (tr := t8) (kv5.kp) aA (kv8.kp) (fun x hx _ => ⟨by omega, kv5.ge x hx⟩) rfl rfl aD aD rfl rfl (by intro k hk; cases hk) (aX rfl) (by unfold room; omega) ?_
     intro h9 hn9 hk9 hf9 kv9
     simp only [UB, UC] at hn9 hk9 hf9 kv9
     have ps9 : bG h9 p L hd x8 := bG.bH (aQ) aB fun j hj => hk9 j (by omega) (by omega)
     have fr9 : bB p h h9 := bB.bH aI aB fun j hj => hk9 j (by omega) (by omega)
     refine Mb (w:=QL ?_)
     exact ih (m, kids ++ [t8], x8) _ _ (by simp) ⟨_, _, _, e0, e1, rfl, ps9, fr9, by omega, by simp; omega, kv9.mono (Nat.le_refl _) (fun j hj _ => ⟨by omega, rfl⟩), hq8⟩
    ·rw [uZ hl5 (by omega)] at hq5
     refine QJ iW ?_
     refine c.expr (hd := hd) (aQ) (El hq5 (k:=fun t8 x8 h8 b8 n8 es8 ps8 fr8 kv8 hn8 hq8 => ?_))
     refine Mw (w:=Mv (w:=QL (QV (Ma (w:=Mu (w:=Mz (w:=QK ?_)))))))
     refine WS.jO (S := fun j => h.next ≤ j) (S2 := fun j => h5.next ≤ j) (tr := t8) (kv5.kp) aA (kv8.kp) (fun x hx _ => ⟨by omega, kv5.ge x hx⟩) rfl rfl aD aD rfl rfl (by intro k hk; cases hk) (aX rfl) (by unfold room; omega) ?_
     intro h9 hn9 hk9 hf9 kv9
     simp only [UB, UC] at hn9 hk9 hf9 kv9
     have ps9 : bG h9 p L hd x8 := bG.bH (aQ) aB fun j hj => hk9 j (by omega) (by omega)
     have fr9 : bB p h h9 := bB.bH aI aB fun j hj => hk9 j (by omega) (by omega)
     refine Mb (w:=QL ?_)
     exact ih (m, kids ++ [t8], x8) _ _ (by simp) ⟨_, _, _, e0, e1, rfl, ps9, fr9, by omega, by simp; omega, kv9.mono (Nat.le_refl _) (fun j hj _ => ⟨by omega, rfl⟩), hq8⟩
   ·have hs6 : bA L s5 [w] = true := hb6
    rw [hs6, if_pos rfl, R.then_ok] at hq5
    refine Me (w:=Mc (w:=QP (WC.exit ?_)))
    exact ⟨rfl, .live s5, kids, b5, n5, es5, e0, e1, e5, aQ, aI, aB, by omega, kv5.kp, by rw [Xs.a8, lW hs6]; exact hq5⟩
 ·rintro e h9 ⟨x9, kids, b9, n9, es9, e0, e1, e5, ps9, fr9, hn9, hl9, kv9, hq9⟩
  have hnn9 := fr9.1
  have hlen9 := kv9.len
  refine aG (QN (Ma (w:=Ma (w:=MJ dU (w:=bO (hd := hd) (aQ) (aU.use (hd' := hd) aI hq9 fun tk2 x2 h2 v2 ps2 fr2 hv2 hq2 => ?_))))))
  obtain ⟨rfl, rfl⟩ := hv2
  have hn2 := nx fr2.1
  refine QO (Ma (w:=Mb (w:=QM ?_)))
  refine ⟨_, aJ, ?_⟩
  exact hq2.fin aQ aI ⟨⟨_, _, _, rfl, kv9.kp⟩, hl9⟩

theorem aAl {r : Rec} {n : Nat} (hn : n ≤ 1000000) (c : gE r) : XK 41 (fF n r) := by
 intro p L hd x0 h Q ps hq0
 have hp := ps.lt
 have hz := ps.wf.size
 unfold fF at hq0
 refine Wk Tryz.func41 Tryz.ntmps41 (w:=QN (Mb (w:=QO (Ma (w:=MJ gG (w:=cN (L := L) (hd := hd) (x := x0) (aQ) fun h1 g1 => ?_))))))
 have hn1 := nx g1.1
 refine Mk (w:=Mb (w:=QO (Ma (w:=MJ dU (w:=bO (hd := hd) (aQ) (aU.use (hd' := hd) aI hq0 fun tk2 x2 h2 v2 ps2 fr2 hv2 hq2 => ?_))))))
 obtain ⟨rfl, rfl⟩ := hv2
 have hn2 := nx fr2.1
 generalize aF L x0.st.k = tk at *
 refine QO (Mb (w:=QL (QU (Bk ?_))))
 refine WC.fW 0 (fun e h' => ∃ x kids b n es, e 0 = some (pV p) ∧ e 3 = some (.int .i64 tk.pos) ∧ e 4 = some (.slice b n es) ∧ bG h' p L hd x ∧ bB p h h' ∧ h.next ≤ h'.next ∧ kids.length ≤ 1000000 ∧
  KV h' (fun j => h.next ≤ j) b n es kids ∧ aU (VK fun j => h.next ≤ j) p L hd h Q (x.run fun s => (bI L s ⟨#[41]⟩).then fun _ s => (if bA L s [⟨#[123]⟩] then .ok aY s else r.cW L hd s).then fun result s =>
   (r.block L false s).then fun b s => .ok [nd 6 tk ⟨#[]⟩ kids, result, b] s)) ?_ ?_
 ·refine WC.bK hX (α := Nat × List Nd × Xs) (m := fun a => a.1) (Inv := fun a e h' => ∃ b n' es, e 0 = some (pV p) ∧ e 3 = some (.int .i64 tk.pos) ∧ e 4 = some (.slice b n' es) ∧ bG h' p L hd a.2.2 ∧ bB p h h' ∧ h.next ≤ h'.next ∧ a.1 + a.2.1.length ≤ n ∧
   KV h' (fun j => h.next ≤ j) b n' es a.2.1 ∧ aU (VK fun j => h.next ≤ j) p L hd h Q (a.2.2.run fun s => (c6 L [⟨#[41]⟩] (fun kids s => (nF L s kids.isEmpty).then fun _ s => (eD L s).then fun x s => (r.cW L hd s).then fun y s => .ok (kids ++ [nd 7 x x.text [y]]) s) a.1 a.2.1 s).then fun kids s =>
    (if bA L s.next [⟨#[123]⟩] then .ok aY s.next else r.cW L hd s.next).then fun result s => (r.block L false s).then fun b s => .ok [nd 6 tk ⟨#[]⟩ kids, result, b] s))
   (n, [], x2) ⟨none, 0, 0, rfl, rfl, rfl, aQ, aI, aB, by simp, KV.nil _ _, hq2⟩ ?_
  rintro ⟨m, kids, x5⟩ env h5 ih ⟨b5, n5, es5, e0, e3, e4, ps5, fr5, hn5, hm5, kv5, hq5⟩
  simp only at ps5 hm5 kv5 hq5
  have hnn5 := fr5.1
  have hl5 := kv5.len
  obtain ⟨j5, br5, hj5, hp5, hl5'⟩ := ps5.tok
  cases x5 with
  | dead e s =>
   have hb5 := ps5.dA
   generalize hbd : Xs.bad L (Xs.dead e s) = bd at *
   refine QU (QN (Ma (w:=Mi (w:=Mj (w:=Mt (w:=MF (w:=fun hh => by omega) (v:=fun hh => Ma (w:=MA (w:=MA (w:=MA (w:=Md (w:=QP (WC.exit ?_)))))))))))))
   exact ⟨rfl, Xs.dead e s, kids, b5, n5, es5, e0, e3, e4, ps5, fr5, hn5, by omega, kv5, hq5⟩
  | live s5 =>
   have hb5 : Xs.bad L (Xs.live s5) = -1 := rfl
   rw [hb5] at hp5
   obtain ⟨m, rfl⟩ : ∃ m', m = m' + 1 := by
    cases m with
    | zero => exact (hq5.1 rfl).elim
    | succ m => exact ⟨m, rfl⟩
   rw [Xs.a8] at hq5
   unfold c6 at hq5
   refine QU (QN (Ma (w:=Mi (w:=Mj (w:=Mt (w:=MF (w:=fun hh => Ma (w:=Ma (w:=MJ gY (w:=gX (L := L) (hd := hd) (x := .live s5) (aQ) fun h6 g6 => ?_)))) (v:=fun hh => by omega)))))))
   have hn6 := nx g6.1
   cases hb6 : Xs.is L [⟨#[41]⟩] (.live s5)
   ·have hs6 : bA L s5 [⟨#[41]⟩] = false := hb6
    rw [hs6, if_neg Bool.false_ne_true] at hq5
    simp only [R.then_assoc, R.then_ok] at hq5
    refine Me (w:=Mc (w:=QQ (UA (Bk (QU (QN (Ma (w:=Ms (w:=MH (w:=fun hh => QQ (QV (Ma (w:=QK ?_)))) (v:=fun hh => QP (UA (QN (Ma (w:=QK ?_))))))))))))))
    ·rw [vH hl5 (by omega)] at hq5
     refine QJ dU ?_
     refine bO (hd := hd) (aQ) (aU.kH (hd' := hd) aI hq5 fun tk16 x16 h16 v16 ps16 fr16 hv16 hq16 => ?_)
     obtain ⟨rfl, rfl⟩ := hv16
     have hn16 := nx fr16.1
     refine QO (Ma (w:=MJ gG (w:=cN (L := L) (hd := hd) (x := x16) (aQ) fun h7 g7 => ?_)))
     have hn7 := nx g7.1
     refine Mk (w:=Mb (w:=QO (Ma (w:=MJ q7 (w:=jH (hd := hd) (aQ) (aU.use (hd' := hd) aI hq16 fun tk8 x8 h8 v8 ps8 fr8 hv8 hq8 => ?_))))))
     obtain ⟨rfl, hp8⟩ := hv8
     have hn8 := nx fr8.1
     generalize (aF L (Xs.st x16).k).pos = q8 at *
     subst hp8
     refine Mb (w:=QO (Ma (w:=MJ r4 (w:=c.cW (hd := hd) (aQ) (Eu hq8 (k:=fun t9 x9 h9 b9 n9 es9 ps9 fr9 kv9 hn9 hq9 => ?_))))))
     refine Mw (w:=Mv (w:=QL (QV (Ma (w:=Ma (w:=Ma (w:=Mu (w:=Mz (w:=MJ cL (w:=bN fun h10 g10 => ?_))))))))))
     have hn10 := nx g10.1
     refine Mz (w:=QK ?_)
     refine WS.jO (S := fun j => h.next ≤ j) (S2 := fun j => h5.next ≤ j) (tr := nd 7 tk8 tk8.text [t9]) (kv5.kp) aA (NV.aN (KV.one (S := fun j => h5.next ≤ j ∧ j < h9.next) aB aB aA (kv9.kp) (fun j hS hj => ⟨hS.1, by have := hS.2; exact aB⟩)) _ _ _ _ _ _) (fun x hx _ => ⟨by omega, kv5.ge x hx⟩) rfl rfl aD aD rfl rfl (by intro k hk; cases hk) (aX rfl) (by unfold room; omega) ?_
     intro hA hnA hkA hfA kvA
     simp only [UB, UC] at hnA hkA hfA kvA
     have psA : bG hA p L hd x9 := bG.bH (aQ) aB fun j hj => hkA j (by omega) (by omega)
     have frA : bB p h hA := bB.bH aI aB fun j hj => hkA j (by omega) (by omega)
     refine Mb (w:=QL ?_)
     exact ih (m, kids ++ [nd 7 tk8 tk8.text [t9]], x9) _ _ (by simp) ⟨_, _, _, e0, e3, rfl, psA, frA, by omega, by simp; omega, kvA.mono (Nat.le_refl _) (fun j hj _ => ⟨by omega, rfl⟩), hq9⟩
    ·rw [uZ hl5 (by omega)] at hq5
     skip
     refine QJ gG ?_
     refine cN (L := L) (hd := hd) (x := (.live s5)) (aQ) fun h7 g7 => ?_
     have hn7 := nx g7.1
     refine Mk (w:=Mb (w:=QO (Ma (w:=MJ q7 (w:=jH (hd := hd) (aQ) (aU.kH (hd' := hd) aI hq5 fun tk8 x8 h8 v8 ps8 fr8 hv8 hq8 => ?_))))))
     obtain ⟨rfl, hp8⟩ := hv8
     have hn8 := nx fr8.1
     generalize (aF L (Xs.st (.live s5)).k).pos = q8 at *
     subst hp8
     refine Mb (w:=QO (Ma (w:=MJ r4 (w:=c.cW (hd := hd) (aQ) (Eu hq8 (k:=fun t9 x9 h9 b9 n9 es9 ps9 fr9 kv9 hn9 hq9 => ?_))))))
     refine Mw (w:=Mv (w:=QL (QV (Ma (w:=Ma (w:=Ma (w:=Mu (w:=Mz (w:=MJ cL (w:=bN fun h10 g10 => ?_))))))))))
     have hn10 := nx g10.1
     refine Mz (w:=QK ?_)
     refine WS.jO (S := fun j => h.next ≤ j) (S2 := fun j => h5.next ≤ j) (tr := nd 7 tk8 tk8.text [t9]) (kv5.kp) aA (NV.aN (KV.one (S := fun j => h5.next ≤ j ∧ j < h9.next) aB aB aA (kv9.kp) (fun j hS hj => ⟨hS.1, by have := hS.2; exact aB⟩)) _ _ _ _ _ _) (fun x hx _ => ⟨by omega, kv5.ge x hx⟩) rfl rfl aD aD rfl rfl (by intro k hk; cases hk) (aX rfl) (by unfold room; omega) ?_
     intro hA hnA hkA hfA kvA
     simp only [UB, UC] at hnA hkA hfA kvA
     have psA : bG hA p L hd x9 := bG.bH (aQ) aB fun j hj => hkA j (by omega) (by omega)
     have frA : bB p h hA := bB.bH aI aB fun j hj => hkA j (by omega) (by omega)
     refine Mb (w:=QL ?_)
     exact ih (m, kids ++ [nd 7 tk8 tk8.text [t9]], x9) _ _ (by simp) ⟨_, _, _, e0, e3, rfl, psA, frA, by omega, by simp; omega, kvA.mono (Nat.le_refl _) (fun j hj _ => ⟨by omega, rfl⟩), hq9⟩
   ·have hs6 : bA L s5 [⟨#[41]⟩] = true := hb6
    rw [hs6, if_pos rfl, R.then_ok] at hq5
    refine Me (w:=Mc (w:=QP (WC.exit ?_)))
    exact ⟨rfl, .live s5, kids, b5, n5, es5, e0, e3, e4, aQ, aI, aB, by omega, kv5.kp, by rw [Xs.a8, lW hs6]; exact hq5⟩
 ·rintro e h9 ⟨x9, kids, b9, n9, es9, e0, e3, e4, ps9, fr9, hn9, hl9, kv9, hq9⟩
  have hnn9 := fr9.1
  have hlen9 := kv9.len
  refine aG (QN (Ma (w:=MJ dU (w:=bO (hd := hd) (aQ) (aU.use (hd' := hd) aI hq9 fun tk2 x2 h2 v2 ps2 fr2 hv2 hq2 => ?_)))))
  obtain ⟨rfl, rfl⟩ := hv2
  have hn2 := nx fr2.1
  refine QO (MJ tI (w:=kN fun h3 g3 => ?_))
  have hn3 := nx g3.1
  have ps3 : bG h3 p L hd x2 := aQ
  obtain ⟨j3, br3, hj3, hp3, hl3⟩ := ps3.tok
  cases x2 with
  | dead e s =>
   have hb3 := ps3.dA
   generalize hbd : Xs.bad L (Xs.dead e s) = bd at *
   have hq3 : aU (VK fun j => h.next ≤ j) p L hd h Q ((Xs.dead e s).run fun s => (r.block L false s).then fun b s => .ok [nd 6 tk ⟨#[]⟩ kids, aY, b] s) := hq2
   refine Mw (w:=Mv (w:=QL (QU (QN (Ma (w:=Mi (w:=Mj (w:=Mt (w:=MF (w:=fun hh => by omega) (v:=fun hh => Ma (w:=MA (w:=MA (w:=MA (w:=Md (w:=QP (UA (QN (Ma (w:=Mi (w:=Mj (w:=Mt (w:=Mb (w:=QO (Ma (w:=Mi (w:=Mj (w:=Mv (w:=QO (Ma (w:=MJ yA (w:=c.block (hd := false) (aQ) (Eu hq3 (k:=fun t30 x30 h30 b30 n30 es30 ps30 fr30 kv30 hn30 hq30 => ?_)))))))))))))))))))))))))))))))))
   obtain ⟨j30, br30, hj30, hp30, hl30⟩ := ps30.tok
   refine Mw (w:=Mv (w:=QO (Ma (w:=Ma (w:=Mi (w:=Mj (w:=Mv (w:=QL (QU (Gd [⟨0, .pure, 0⟩, ⟨1, .pure, 0⟩, ⟨3, .read, 0⟩, ⟨4, .read, 0⟩, ⟨2, .aC, 3⟩, ⟨5, .alloc, 31⟩, ⟨6, .pure, 63⟩] (w:=Da (w:=Da (w:=Ru (w:=Ru (w:=?_)))))))))))))));refine WD.aC hX (hw := ?_)
   refine QJ cL ?_
   refine bN fun h31 g31 => ?_
   have hn31 := nx g31.1
   refine WD.alloc (hw := Qz ?_);refine Db (w:=WD.nil (hq:=WC.ret ?_))
   refine ⟨_, aJ, ?_⟩
   refine hq30.fin aQ aI ⟨_, _, _, rfl, ?_⟩
   apply KV.sX (b2 := none) (n2 := 0) (es2 := 0) (S := fun j => h.next ≤ j ∧ j < h31.next)
   (· exact aA); (· rfl); (· exact aB); (· exact aB); (· exact NV.aN (kv9.kp) _ _ _ _ _ _); (· exact (NV.none _ _)); (· exact (kv30.kp)); (· exact fun j hS hj => ⟨hS.1, by have := hS.2; exact aB⟩)
  | live s3 =>
   have hb3 : Xs.bad L (Xs.live s3) = -1 := rfl
   rw [hb3] at hp3
   rw [Xs.a8] at hq2
   refine Mw (w:=Mv (w:=QL (QU (QN (Ma (w:=Mi (w:=Mj (w:=Mt (w:=MF (w:=fun hh => Ma (w:=Ma (w:=MJ gY (w:=gX (L := L) (hd := hd) (x := .live s3) (aQ) fun h4 g4 => ?_)))) (v:=fun hh => by omega))))))))))
   have hn4 := nx g4.1
   cases hb4 : Xs.is L [⟨#[123]⟩] (.live s3)
   ·have hs4 : bA L s3 [⟨#[123]⟩] = false := hb4
    rw [hs4, if_neg Bool.false_ne_true] at hq2
    refine Me (w:=Mc (w:=QQ (QV (Ma (w:=MJ r4 (w:=c.cW (hd := hd) (aQ) (El hq2 (k:=fun t5 x5 h5 b5 n5 es5 ps5 fr5 kv5 hn5 hq5 => ?_))))))))
    obtain ⟨j5, br5, hj5, hp5, hl5⟩ := ps5.tok
    refine Mv (w:=QO (Ma (w:=Mi (w:=Mj (w:=Mt (w:=Mb (w:=QO (Ma (w:=Mi (w:=Mj (w:=Mv (w:=QO (Ma (w:=MJ yA (w:=c.block (hd := false) (aQ) (Eu hq5 (k:=fun t30 x30 h30 b30 n30 es30 ps30 fr30 kv30 hn30 hq30 => ?_)))))))))))))))))
    obtain ⟨j30, br30, hj30, hp30, hl30⟩ := ps30.tok
    refine Mw (w:=Mv (w:=QO (Ma (w:=Ma (w:=Mi (w:=Mj (w:=Mv (w:=QL (QU (Gd [⟨0, .pure, 0⟩, ⟨1, .pure, 0⟩, ⟨3, .read, 0⟩, ⟨4, .read, 0⟩, ⟨2, .aC, 3⟩, ⟨5, .alloc, 31⟩, ⟨6, .pure, 63⟩] (w:=Da (w:=Da (w:=Ru (w:=Ru (w:=?_)))))))))))))));refine WD.aC hX (hw := ?_)
    refine QJ cL ?_
    refine bN fun h31 g31 => ?_
    have hn31 := nx g31.1
    refine WD.alloc (hw := Qz ?_);refine Db (w:=WD.nil (hq:=WC.ret ?_))
    refine ⟨_, aJ, ?_⟩
    refine hq30.fin aQ aI ⟨_, _, _, rfl, ?_⟩
    apply KV.sX  (S := fun j => h.next ≤ j ∧ j < h31.next)
    (· exact aA); (· rfl); (· exact aB); (· exact aB); (· exact NV.aN (kv9.kp) _ _ _ _ _ _); (· exact (kv5.kp)); (· exact (kv30.kp)); (· exact fun j hS hj => ⟨hS.1, by have := hS.2; exact aB⟩)
   ·have hs4 : bA L s3 [⟨#[123]⟩] = true := hb4
    rw [hs4, if_pos rfl, R.then_ok] at hq2
    refine Me (w:=Mc (w:=QP (UA (QN (Ma (w:=Mi (w:=Mj (w:=Mt (w:=Mb (w:=QO (Ma (w:=Mi (w:=Mj (w:=Mv (w:=QO (Ma (w:=MJ yA (w:=c.block (hd := false) (aQ) (El hq2 (k:=fun t30 x30 h30 b30 n30 es30 ps30 fr30 kv30 hn30 hq30 => ?_))))))))))))))))))))
    obtain ⟨j30, br30, hj30, hp30, hl30⟩ := ps30.tok
    refine Mw (w:=Mv (w:=QO (Ma (w:=Ma (w:=Mi (w:=Mj (w:=Mv (w:=QL (QU (Gd [⟨0, .pure, 0⟩, ⟨1, .pure, 0⟩, ⟨3, .read, 0⟩, ⟨4, .read, 0⟩, ⟨2, .aC, 3⟩, ⟨5, .alloc, 31⟩, ⟨6, .pure, 63⟩] (w:=Da (w:=Da (w:=Ru (w:=Ru (w:=?_)))))))))))))));refine WD.aC hX (hw := ?_)
    refine QJ cL ?_
    refine bN fun h31 g31 => ?_
    have hn31 := nx g31.1
    refine WD.alloc (hw := Qz ?_);refine Db (w:=WD.nil (hq:=WC.ret ?_))
    refine ⟨_, aJ, ?_⟩
    refine hq30.fin aQ aI ⟨_, _, _, rfl, ?_⟩
    apply KV.sX (b2 := none) (n2 := 0) (es2 := 0) (S := fun j => h.next ≤ j ∧ j < h31.next)
    (· exact aA); (· rfl); (· exact aB); (· exact aB); (· exact NV.aN (kv9.kp) _ _ _ _ _ _); (· exact (NV.none _ _)); (· exact (kv30.kp)); (· exact fun j hS hj => ⟨hS.1, by have := hS.2; exact aB⟩)

theorem aGp {s : St} {a b : List ByteArray} (h : bA L s a = true) (hd : a.all (fun x => !dE b x) = true) : bA L s b = false := by
 unfold bA kI at *
 rw [Bool.and_eq_true] at h
 have h2 := (List.all_eq_true.1 hd) _ (bL.1 h.2)
 rw [Bool.not_eq_true'] at h2
 rw [h2, Bool.and_false]

theorem aGt {r : Rec} {n : Nat} (hn : n ≤ 1000000) (c : gE r) : XK 79 (pG n r) := by
 intro p L hd x0 h Q ps hq0
 have hp := ps.lt
 have hz := ps.wf.size
 unfold pG at hq0
 refine Wk Tryz.func79 Tryz.ntmps79 (w:=QN (Mb (w:=QO (Mb (w:=QL (QU (Bk ?_)))))))
 refine WC.fW 0 (fun e h' => ∃ x kids b n es, e 3 = some (.slice b n es) ∧ bG h' p L hd x ∧ bB p h h' ∧
  KV h' (fun j => h.next ≤ j) b n es kids ∧ aU (VK fun j => h.next ≤ j) p L hd h Q (x.run fun s => .ok kids s)) ?_ ?_
 ·refine WC.bK hX (α := Nat × List Nd × Xs) (m := fun a => a.1) (Inv := fun a e h' => ∃ b n' es, e 0 = some (pV p) ∧ e 3 = some (.slice b n' es) ∧ bG h' p L hd a.2.2 ∧ bB p h h' ∧ h.next ≤ h'.next ∧ a.1 + a.2.1.length ≤ n ∧
   KV h' (fun j => h.next ≤ j) b n' es a.2.1 ∧ aU (VK fun j => h.next ≤ j) p L hd h Q (a.2.2.run fun s => kB r L hd a.1 a.2.1 s))
   (n, [], x0) ⟨none, 0, 0, rfl, rfl, aQ, aI, aB, by simp, KV.nil _ _, hq0⟩ ?_
  rintro ⟨m, kids, x5⟩ env h5 ih ⟨b5, n5, es5, e0, e3, ps5, fr5, hn5, hm5, kv5, hq5⟩
  simp only at ps5 hm5 kv5 hq5
  have hnn5 := fr5.1
  have hl5 := kv5.len
  obtain ⟨j5, br5, hj5, hp5, hl5'⟩ := ps5.tok
  cases x5 with
  | dead e s =>
   have hb5 := ps5.dA
   generalize hbd : Xs.bad L (Xs.dead e s) = bd at *
   refine QU (QN (Ma (w:=Mi (w:=Mj (w:=Mt (w:=MF (w:=fun hh => by omega) (v:=fun hh => Ma (w:=MA (w:=MA (w:=MA (w:=Md (w:=QP (WC.exit ?_)))))))))))))
   exact ⟨rfl, Xs.dead e s, kids, b5, n5, es5, e3, ps5, fr5, kv5, hq5⟩
  | live s5 =>
   have hb5 : Xs.bad L (Xs.live s5) = -1 := rfl
   rw [hb5] at hp5
   obtain ⟨m, rfl⟩ : ∃ m', m = m' + 1 := by
    cases m with
    | zero => exact (hq5.1 rfl).elim
    | succ m => exact ⟨m, rfl⟩
   rw [Xs.a8] at hq5
   unfold kB at hq5
   refine QU (QN (Ma (w:=Mi (w:=Mj (w:=Mt (w:=MF (w:=fun hh => Ma (w:=Ma (w:=MJ o7 (w:=eR (L := L) (hd := hd) (x := .live s5) (ws := eS) (by decide +kernel) (by decide) (aQ) fun h6 g6 => ?_)))) (v:=fun hh => by omega)))))))
   have hn6 := nx g6.1
   cases hb6 : Xs.is L eS (.live s5)
   ·have hs6 : bA L s5 eS = false := hb6
    refine Me (w:=Mc (w:=QQ (UA (Bk (QN (Ma (w:=MJ qX (w:=lV (L := L) (hd := hd) (x := .live s5) (aQ) fun h7 ps7 fr7 => ?_))))))))
    have hn7 := nx fr7.1
    cases hb7 : Xs.is L [⟨#[59]⟩] (.live s5)
    ·have hs7 : bA L s5 [⟨#[59]⟩] = false := hb7
     rw [Xs.gT hb7] at ps7
     rw [hs7, if_neg Bool.false_ne_true, hs6, if_neg Bool.false_ne_true] at hq5
     refine Mb (w:=QL (QU (QN (Ma (w:=QP (UA (QN (Ma (w:=MJ aMn (w:=c.stmt (hd := hd) trivial (aQ) (aU.wB (hd' := hd) (F := r.stmt L hd) aI hq5 fun t8 x8 h8 v8 ps8 fr8 hv8 hq8 => ?_)))))))))))
     obtain ⟨b8, n8, es8, rfl, kv8⟩ := hv8
     have hn8 := nx fr8.1
     refine Mw (w:=Mv (w:=QO (Ma (w:=Mu (w:=Mz (w:=QK ?_))))))
     refine WS.jO (S := fun j => h.next ≤ j) (S2 := fun j => h5.next ≤ j) (tr := t8) (kv5.kp) aA (kv8.kp) (fun x hx _ => ⟨by omega, kv5.ge x hx⟩) rfl rfl aD aD rfl rfl (by intro k hk; cases hk) (aX rfl) (by unfold room; omega) ?_
     intro h9 hn9 hk9 hf9 kv9
     simp only [UB, UC] at hn9 hk9 hf9 kv9
     have ps9 : bG h9 p L hd x8 := bG.bH (aQ) aB fun j hj => hk9 j (by omega) (by omega)
     have fr9 : bB p h h9 := bB.bH aI aB fun j hj => hk9 j (by omega) (by omega)
     have kv9 := kv9.mono (S' := fun j => h.next ≤ j) (Nat.le_refl _) (fun j hj _ => ⟨by omega, rfl⟩)
     obtain ⟨j9, br9, hj9, hp9, hl9⟩ := ps9.tok
     cases x8 with
     | dead e s =>
      have hb9 := ps9.dA
      generalize hbd : Xs.bad L (Xs.dead e s) = bd at *
      refine Mb (w:=QO (Ma (w:=Mi (w:=Mj (w:=Mt (w:=MF (w:=fun hh => by omega) (v:=fun hh => Ma (w:=MA (w:=MA (w:=MA (w:=Md (w:=QP (UA ?_)))))))))))))
      exact ih (m, kids ++ [t8], .dead e s) _ _ (by simp) ⟨_, _, _, e0, rfl, ps9, fr9, by omega, by simp; omega, kv9, hq8⟩
     | live s9 =>
      have hb9 : Xs.bad L (Xs.live s9) = -1 := rfl
      rw [hb9] at hp9
      rw [Xs.a8] at hq8
      refine Mb (w:=QO (Ma (w:=Mi (w:=Mj (w:=Mt (w:=MF (w:=fun hh => Ma (w:=Ma (w:=MJ o7 (w:=eR (L := L) (hd := hd) (x := .live s9) (ws := eS) (by decide +kernel) (by decide) (aQ) fun h10 g10 => ?_)))) (v:=fun hh => by omega)))))))
      have hn10 := nx g10.1
      cases hb10 : Xs.is L eS (.live s9)
      ·have hs10 : bA L s9 eS = false := hb10
       rw [hs10, if_neg Bool.false_ne_true, R.then_assoc] at hq8
       refine Me (w:=Mc (w:=QQ (QV (Ma (w:=MJ dU (w:=bO (hd := hd) (aQ) (aU.kH (hd' := hd) aI hq8 fun tk11 x11 h11 v11 ps11 fr11 hv11 hq11 => ?_)))))))
       obtain ⟨rfl, rfl⟩ := hv11
       have hn11 := nx fr11.1
       refine QL ?_
       exact ih (m, kids ++ [t8], x11) _ _ (by simp) ⟨_, _, _, e0, rfl, aQ, aI, aB, by simp; omega, kv9.kp, hq11⟩
      ·have hs10 : bA L s9 eS = true := hb10
       rw [hs10, if_pos rfl, R.then_ok] at hq8
       refine Me (w:=Mc (w:=QP (UA ?_)))
       exact ih (m, kids ++ [t8], .live s9) _ _ (by simp) ⟨_, _, _, e0, rfl, aQ, aI, aB, by simp; omega, kv9.kp, hq8⟩
    ·have hs7 : bA L s5 [⟨#[59]⟩] = true := hb7
     rw [Xs.iE hs7] at ps7
     rw [hs7, if_pos rfl] at hq5
     refine Mb (w:=QL (QU (QN (Ma (w:=QQ (WC.exit (aG ?_)))))))
     exact ih (m, kids, .live s5.next) _ _ (by simp) ⟨_, _, _, e0, e3, aQ, aI, aB, by simp; omega, kv5.kp, hq5⟩
   ·have hs6 : bA L s5 eS = true := hb6
    rw [aGp hs6 (by decide +kernel), if_neg Bool.false_ne_true, hs6, if_pos rfl] at hq5
    refine Me (w:=Mc (w:=QP (WC.exit ?_)))
    exact ⟨rfl, .live s5, kids, b5, n5, es5, e3, aQ, aI, kv5.kp, hq5⟩
 ·rintro e h9 ⟨x9, kids, b9, n9, es9, e3, ps9, fr9, kv9, hq9⟩
  have hnn9 := fr9.1
  refine aG (QN (Ma (w:=Mb (w:=QM ?_))))
  refine ⟨_, aJ, ?_⟩
  exact hq9.fin aQ aI ⟨_, _, _, rfl, kv9⟩

theorem rZ {r : Rec} (c : gE r) : XN 124 (dN r) := by
 intro p L hd x0 h Q ps hq0
 have hp := ps.lt
 unfold dN at hq0
 refine Wk Tryz.func124 Tryz.ntmps124 (w:=QN (Mw (w:=QO (Ma (w:=MJ gG (w:=cN (L := L) (hd := hd) (x := x0) (aQ) fun h1 g1 => ?_))))))
 have hn1 := nx g1.1
 refine Mk (w:=Mb (w:=QO (Ma (w:=MJ dU (w:=bO (hd := hd) (aQ) (aU.use (hd' := hd) aI hq0 fun tk2 x2 h2 v2 ps2 fr2 hv2 hq2 => ?_))))))
 obtain ⟨rfl, rfl⟩ := hv2
 have hn2 := nx fr2.1
 refine QO (Ma (w:=MJ aJw (w:=c.stmts (hd := hd) (aQ) (Euk hq2 (k:=fun t3 x3 h3 b3 n3 es3 ps3 fr3 kv3 hn3 hq3 => ?_)))))
 refine Mb (w:=QO (Ma (w:=Ma (w:=MJ cL (w:=bN fun h5 g5 => ?_)))))
 have hn5 := nx g5.1
 refine Mv (w:=QM ?_)
 refine ⟨_, aJ, ?_⟩
 exact hq3.fin aQ aI ⟨_, _, _, rfl, NV.aN (kv3.kp) _ _ _ _ _ _⟩

theorem y7 {r : Rec} (c : gE r) {p : Nat} {L : List Tok} {hd : Bool} {x0 : Xs} {h : aE} {Q : bW → Prop} (ps : bG h p L hd x0) (hq0 : aU (VN (fun j => h.next ≤ j)) p L hd h Q (x0.run (r.expr L true))) : aP Tryz.prog G X 107 [pV p] h Q := by
 have hp := ps.lt
 have hid : x0.run (r.expr L true) = x0.run fun s => (r.expr L true s).then fun a s => .ok a s := by congr 1; funext s; rw [R.bT]
 rw [hid] at hq0
 obtain ⟨j0, br0, hj0, hp0, hl0⟩ := ps.tok
 refine Wk Tryz.func107 Tryz.ntmps107 (w:=QN (Mw (w:=QO (Ma (w:=Mi (w:=Mj (w:=Mt (w:=Mb (w:=QO (Ma (w:=Mi (w:=Mj (w:=Mv (w:=QO (Ma (w:=MJ iW (w:=c.expr (hd := true) (aQ) (Eu hq0 (k:=fun t1 x1 h1 b1 n1 es1 ps1 fr1 kv1 hn1 hq1 => ?_)))))))))))))))))))
 obtain ⟨j1, br1, hj1, hp1, hl1⟩ := ps1.tok
 refine Mw (w:=Mv (w:=QO (Ma (w:=Ma (w:=Mi (w:=Mj (w:=Mv (w:=QO (Mu (w:=Mv (w:=QM ?_)))))))))))
 refine ⟨_, aJ, ?_⟩
 exact hq1.fin aQ aI ⟨_, _, _, rfl, kv1.kp⟩

theorem aHe {r : Rec} (c : gE r) : XNb 112 (mL r) := by
 intro p L hd x0 h Q ps hq0
 have hp := ps.lt
 have hz := ps.wf.size
 unfold mL at hq0
 refine Wk Tryz.func112 Tryz.ntmps112 (w:=QN (Mw (w:=QO (Ma (w:=MJ gG (w:=cN (L := L) (hd := hd) (x := x0) (aQ) fun h1 g1 => ?_))))))
 have hn1 := nx g1.1
 refine Mw (w:=Mv (w:=QL (QU (QN (Ma (w:=MJ o7 (w:=eR (L := L) (hd := hd) (x := x0) (ws := [⟨#[45]⟩, ⟨#[33]⟩, ⟨#[60, 45]⟩]) (by decide +kernel) (by decide) (aQ) fun h2 g2 => ?_)))))))
 have hn2 := nx g2.1
 cases hb2 : Xs.is L [⟨#[45]⟩, ⟨#[33]⟩, ⟨#[60, 45]⟩] x0
 ·rw [Xs.lQ hb2, Xs.aA7] at hq0
  refine QP (UA (QN (Ma (w:=MJ wV (w:=c.mR (hd := hd) (aQ) (dF.aGx (hd' := hd) aI hq0 fun t3 x3 h3 v3 ps3 bx3 fr3 hv3 hq3 => ?_))))))
  obtain ⟨b3, n3, es3, rfl, kv3⟩ := hv3
  have hn3 := nx fr3.1
  refine Mv (w:=QM ?_)
  refine ⟨_, aJ, ?_⟩
  exact hq3.fin aQ (bx3.bH bJ) aI ⟨_, _, _, rfl, kv3.kp⟩
 ·obtain ⟨s2, rfl, hs2⟩ := Xs.fZ hb2
  rw [Xs.a8, if_pos hs2] at hq0
  obtain ⟨hk2, j2, br2, hj2, ho2, hl2⟩ := bG.live (show bG (h2) p L hd (.live s2) from aQ)
  have hm2 := ps.wf.toWF.is hk2 hs2
  simp only at hq0
  generalize aF L s2.k = tk at *
  refine QQ (QN (Ma (w:=Mi (w:=Mj (w:=Mt (w:=Mf (w:=Mi (w:=Mj (w:=Mv (w:=QO (Ma (w:=MJ y9 (w:=c.unary (hd := hd) (aQ) (dF.kH (hd' := hd) aI hq0 fun t4 x4 h4 v4 ps4 fr4 hv4 hq4 => ?_))))))))))))))
  obtain ⟨b4, n4, es4, rfl, kv4⟩ := hv4
  have hn4 := nx fr4.1
  obtain ⟨j4, br4, hj4, hp4, hl4⟩ := ps4.tok
  refine Mw (w:=Mv (w:=QO (Ma (w:=Mi (w:=Mj (w:=Mv (w:=QO (Mj (w:=Mt (w:=Mj (w:=Mt (w:=Mu (w:=Mz (w:=MJ cL (w:=bN fun h5 g5 => ?_)))))))))))))))
  have hn5 := nx g5.1
  refine Mv (w:=QM ?_)
  refine ⟨_, aJ, ?_⟩
  exact hq4.aKj aQ aA aI ⟨_, _, _, rfl, NV.aN (KV.one (S := fun j => h.next ≤ j ∧ j < h4.next) aB aB aA (kv4.kp) (fun j hS hj => ⟨hS.1, by have := hS.2; exact aB⟩)) _ _ _ _ _ _⟩

theorem aG8 {r : Rec} (c : gE r) {p : Nat} {L : List Tok} {hd : Bool} {s0 : St} {h : aE} {Q : bW → Prop} {tk : Tok} {t : Nd} {b : Option Addr} {n es : Nat} {S0 : Nat → Prop} (ps : bG h p L hd (.live s0)) (hS0 : ∀ j, S0 j → p < j ∧ j < h.next) (nv : NV h S0 (aH t b n es) t)
  (hq0 : aU (VN (fun j => S0 j ∨ h.next ≤ j)) p L hd h Q (kM r tk t L hd s0)) : aP Tryz.prog G X 129 [pV p, .int .i64 tk.pos, .agg (aH t b n es).toArray] h Q := by
 have hp := ps.lt
 have hz := ps.wf.size
 unfold kM at hq0
 simp only at hq0
 refine Wk Tryz.func129 Tryz.ntmps129 (w:=?_)
 refine QN (Mx (w:=Mw (w:=QL (QU (Gd [⟨0, .read, 0⟩, ⟨1, .aC, 0⟩, ⟨2, .aC, 2⟩, ⟨3, .alloc, 7⟩, ⟨4, .pure, 15⟩] (w:=Ru (w:=?_)))))));refine WD.aC hX (hw := ?_)
 refine QJ tI ?_
 refine kN fun h1 g1 => ?_
 have hn1 := nx g1.1
 refine WD.aC hX (hw := ?_)
 refine QJ tI ?_
 refine kN fun h2 g2 => ?_
 have hn2 := nx g2.1
 refine WD.alloc (hw := Qz ?_);refine Db (w:=WD.nil (hq:=QU (QN (Ma (w:=MJ gY (w:=gX (L := L) (hd := hd) (x := .live s0) (aQ) fun h3 g3 => ?_))))))
 have hn3 := nx g3.1
 cases hb3 : Xs.is L [⟨#[58]⟩] (.live s0)
 ·have hs3 : bA L s0 [⟨#[58]⟩] = false := hb3
  rw [hs3, if_neg Bool.false_ne_true] at hq0
  refine Me (w:=QQ (QN (Ma (w:=Ma (w:=MJ iW (w:=c.expr (hd := hd) (aQ) (El hq0 (k:=fun t4 x4 h4 b4 n4 es4 ps4 fr4 kv4 hn4 hq4 => ?_))))))))
  refine Ml (w:=Mv (w:=QO (Ma (w:=MJ qX (w:=lV (L := L) (hd := hd) (x := x4) (aQ) fun h5 ps5 fr5 => ?_)))))
  have hn5 := nx fr5.1
  cases hb5 : Xs.is L [⟨#[93]⟩] x4
  ·rw [Xs.gT hb5] at ps5
   rw [Xs.lQ hb5] at hq4
   refine Mb (w:=QO (Ma (w:=QP (UA (QN (Ma (w:=MJ dU (w:=bO (hd := hd) (aQ) (aU.use (hd' := hd) aI hq4 fun tk10 x10 h10 v10 ps10 fr10 hv10 hq10 => ?_)))))))))
   obtain ⟨rfl, rfl⟩ := hv10
   have hn10 := nx fr10.1
   refine QL (QU (QN (Ma (w:=MJ gY (w:=gX (L := L) (hd := hd) (x := x10) (aQ) fun h11 g11 => ?_)))))
   have hn11 := nx g11.1
   cases hb11 : Xs.is L [⟨#[93]⟩] x10
   ·rw [Xs.hY hb11] at hq10
    refine Me (w:=QQ (QV (Ma (w:=Ma (w:=MJ iW (w:=c.expr (hd := hd) (aQ) (Eu hq10 (k:=fun t12 x12 h12 b12 n12 es12 ps12 fr12 kv12 hn12 hq12 => ?_))))))))
    refine Ml (w:=Mv (w:=QO (Ma (w:=MJ dU (w:=bO (hd := hd) (aQ) (aU.use (hd' := hd) aI hq12 fun tk20 x20 h20 v20 ps20 fr20 hv20 hq20 => ?_))))))
    obtain ⟨rfl, rfl⟩ := hv20
    have hn20 := nx fr20.1
    refine QO (Ma (w:=Ma (w:=MJ cL (w:=bN fun h21 g21 => ?_))))
    have hn21 := nx g21.1
    refine Mv (w:=QM ?_)
    refine ⟨_, aJ, ?_⟩
    refine hq20.fin aQ aI ⟨_, _, _, rfl, NV.aN ?_ _ _ _ _ _ _⟩
    apply KV.sX  (S := fun j => (S0 j ∨ h.next ≤ j) ∧ j ≠ h2.next)
    (· exact aA); (· rfl); (· exact .inr aB); (· exact aB); (· exact (nv.mono aB (fun j hS hj => by have := hS0 j hS; exact ⟨⟨.inl hS, by omega⟩, bJ⟩))); (· exact (kv4.mono aB (fun j hS hj => by (try simp only [UB, UC] at hS); exact ⟨⟨.inr aB, aB⟩, bJ⟩))); (· exact (kv12.mono aB (fun j hS hj => by (try simp only [UB, UC] at hS); exact ⟨⟨.inr aB, aB⟩, bJ⟩))); (· exact fun j hS _ => hS)
   ·rw [Xs.iA hb11] at hq10
    have hq10 : aU _ _ _ _ _ _ (x10.run fun s => _) := hq10
    refine Me (w:=QP (UA (QN (Ma (w:=MJ dU (w:=bO (hd := hd) (aQ) (aU.use (hd' := hd) aI hq10 fun tk20 x20 h20 v20 ps20 fr20 hv20 hq20 => ?_)))))))
    obtain ⟨rfl, rfl⟩ := hv20
    have hn20 := nx fr20.1
    refine QO (Ma (w:=Ma (w:=MJ cL (w:=bN fun h21 g21 => ?_))))
    have hn21 := nx g21.1
    refine Mv (w:=QM ?_)
    refine ⟨_, aJ, ?_⟩
    refine hq20.fin aQ aI ⟨_, _, _, rfl, NV.aN ?_ _ _ _ _ _ _⟩
    apply KV.sX (b3 := none) (n3 := 0) (es3 := 0) (S := fun j => (S0 j ∨ h.next ≤ j) ∧ j ≠ h2.next)
    (· exact aA); (· rfl); (· exact .inr aB); (· exact aB); (· exact (nv.mono aB (fun j hS hj => by have := hS0 j hS; exact ⟨⟨.inl hS, by omega⟩, bJ⟩))); (· exact (kv4.mono aB (fun j hS hj => by (try simp only [UB, UC] at hS); exact ⟨⟨.inr aB, aB⟩, bJ⟩))); (· exact (NV.none _ _)); (· exact fun j hS _ => hS)
  ·obtain ⟨s5, rfl, hs5⟩ := Xs.fZ hb5
   rw [Xs.iE hs5] at ps5
   rw [Xs.a8, if_pos hs5] at hq4
   refine Mb (w:=QO (Ma (w:=QQ (QN (Ma (w:=Ma (w:=QK ?_)))))))
   refine WS.slice (u := .slice (some ⟨h2.next, 0, none⟩) 3 7) (l := []) (r := [.int .i64 2]) (v := .slice (some ⟨h2.next, 0, none⟩) 2 7) rfl rfl aD rfl rfl rfl ?_
   refine MJ cL (w:=bN fun h21 g21 => ?_)
   have hn21 := nx g21.1
   refine Mv (w:=QM ?_)
   refine ⟨_, aJ, ?_⟩
   refine hq4.qL aQ aI ⟨_, _, _, rfl, NV.aN (KV.aLl (t3 := aY) ?_) _ _ _ _ _ _⟩
   apply KV.sX (b3 := none) (n3 := 0) (es3 := 0) (S := fun j => (S0 j ∨ h.next ≤ j) ∧ j ≠ h2.next)
   (· exact aA); (· rfl); (· exact .inr aB); (· exact aB); (· exact (nv.mono aB (fun j hS hj => by have := hS0 j hS; exact ⟨⟨.inl hS, by omega⟩, bJ⟩))); (· exact (kv4.mono aB (fun j hS hj => by (try simp only [UB, UC] at hS); exact ⟨⟨.inr aB, aB⟩, bJ⟩))); (· exact NV.none _ _); (· exact fun j hS _ => hS)
 ·have hs3 : bA L s0 [⟨#[58]⟩] = true := hb3
  rw [hs3, if_pos rfl] at hq0
  refine Me (w:=QP (UA (QN (Ma (w:=MJ dU (w:=bO (hd := hd) (aQ) (aU.kH (hd' := hd) aI hq0 fun tk10 x10 h10 v10 ps10 fr10 hv10 hq10 => ?_)))))))
  obtain ⟨rfl, rfl⟩ := hv10
  have hn10 := nx fr10.1
  refine QL (QU (QN (Ma (w:=MJ gY (w:=gX (L := L) (hd := hd) (x := x10) (aQ) fun h11 g11 => ?_)))))
  have hn11 := nx g11.1
  cases hb11 : Xs.is L [⟨#[93]⟩] x10
  ·rw [Xs.hY hb11] at hq10
   refine Me (w:=QQ (QV (Ma (w:=Ma (w:=MJ iW (w:=c.expr (hd := hd) (aQ) (Eu hq10 (k:=fun t12 x12 h12 b12 n12 es12 ps12 fr12 kv12 hn12 hq12 => ?_))))))))
   refine Ml (w:=Mv (w:=QO (Ma (w:=MJ dU (w:=bO (hd := hd) (aQ) (aU.use (hd' := hd) aI hq12 fun tk20 x20 h20 v20 ps20 fr20 hv20 hq20 => ?_))))))
   obtain ⟨rfl, rfl⟩ := hv20
   have hn20 := nx fr20.1
   refine QO (Ma (w:=Ma (w:=MJ cL (w:=bN fun h21 g21 => ?_))))
   have hn21 := nx g21.1
   refine Mv (w:=QM ?_)
   refine ⟨_, aJ, ?_⟩
   refine hq20.fin aQ aI ⟨_, _, _, rfl, NV.aN ?_ _ _ _ _ _ _⟩
   apply KV.sX (b2 := none) (n2 := 0) (es2 := 0) (S := fun j => (S0 j ∨ h.next ≤ j) ∧ j ≠ h2.next)
   (· exact aA); (· rfl); (· exact .inr aB); (· exact aB); (· exact (nv.mono aB (fun j hS hj => by have := hS0 j hS; exact ⟨⟨.inl hS, by omega⟩, bJ⟩))); (· exact (NV.none _ _)); (· exact (kv12.mono aB (fun j hS hj => by (try simp only [UB, UC] at hS); exact ⟨⟨.inr aB, aB⟩, bJ⟩))); (· exact fun j hS _ => hS)
  ·rw [Xs.iA hb11] at hq10
   have hq10 : aU _ _ _ _ _ _ (x10.run fun s => _) := hq10
   refine Me (w:=QP (UA (QN (Ma (w:=MJ dU (w:=bO (hd := hd) (aQ) (aU.use (hd' := hd) aI hq10 fun tk20 x20 h20 v20 ps20 fr20 hv20 hq20 => ?_)))))))
   obtain ⟨rfl, rfl⟩ := hv20
   have hn20 := nx fr20.1
   refine QO (Ma (w:=Ma (w:=MJ cL (w:=bN fun h21 g21 => ?_))))
   have hn21 := nx g21.1
   refine Mv (w:=QM ?_)
   refine ⟨_, aJ, ?_⟩
   refine hq20.fin aQ aI ⟨_, _, _, rfl, NV.aN ?_ _ _ _ _ _ _⟩
   apply KV.sX (b2 := none) (n2 := 0) (es2 := 0) (b3 := none) (n3 := 0) (es3 := 0) (S := fun j => (S0 j ∨ h.next ≤ j) ∧ j ≠ h2.next)
   (· exact aA); (· rfl); (· exact .inr aB); (· exact aB); (· exact (nv.mono aB (fun j hS hj => by have := hS0 j hS; exact ⟨⟨.inl hS, by omega⟩, bJ⟩))); (· exact (NV.none _ _)); (· exact (NV.none _ _)); (· exact fun j hS _ => hS)

end Go.Proofs.ZL
end
