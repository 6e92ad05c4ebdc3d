/- A row of units is parsed to its tree. -/
import Derived.Test.YtoifleamknbeaaaGreatDoorYXA
open Go Go.Am
namespace Go.Proofs.ZL
set_option maxRecDepth 100000
set_option linter.unusedSimpArgs false
set_option linter.unusedVariables false

def mt (k : Nat) : Tok := ⟨5, opX k, 0, 0⟩
def Ex.bt : Ex → List Tok
 | .nm x => [⟨1, bts x, 0, 0⟩]
 | .pr l k r => ⟨5, (⟨#[40]⟩ : ByteArray), 0, 0⟩ :: (l.bt ++ mt k :: (r.bt ++ [⟨5, (⟨#[41]⟩ : ByteArray), 0, 0⟩]))
def rt (r : List (Nat × Ex)) : List Tok := r.flatMap fun p => mt p.1 :: p.2.bt
def Ex.ok : Ex → Prop
 | .nm _ => True
 | .pr l k r => l.ok ∧ k < 13 ∧ r.ok
def rok (r : List (Nat × Ex)) : Prop := ∀ p ∈ r, p.1 < 13 ∧ p.2.ok

theorem ops_tab : (List.range 13).all (fun k => decide (level (mt k) = (lv k : Int) ∧ 1 ≤ lv k ∧ lv k ≤ 5) && !isTok (mt k) [(⟨#[40]⟩ : ByteArray), (⟨#[91]⟩ : ByteArray), (⟨#[46]⟩ : ByteArray)]) = true := by decide +kernel
theorem op_at {k : Nat} (h : k < 13) : level (mt k) = (lv k : Int) ∧ 1 ≤ lv k ∧ lv k ≤ 5 ∧ isTok (mt k) [(⟨#[40]⟩ : ByteArray), (⟨#[91]⟩ : ByteArray), (⟨#[46]⟩ : ByteArray)] = false := by
 have := List.all_eq_true.1 ops_tab k (List.mem_range.2 h)
 rw [Bool.and_eq_true, decide_eq_true_eq] at this
 exact ⟨this.1.1, this.1.2.1, this.1.2.2, by simpa using this.2⟩

theorem tok_drop {L Y : List Tok} {t : Tok} {p : Nat} (h : L.drop p = t :: Y) : tokAt L p = t ∧ L.drop (p + 1) = Y := by
 constructor
 ·unfold tokAt
  rw [List.getD_eq_getElem?_getD]
  have : L[p]? = some t := by
   have := congrArg List.head? h
   rw [List.head?_drop] at this
   exact this
  rw [this]; rfl
 ·rw [← List.drop_drop, h]; rfl
theorem drop_app {L A B : List Tok} {p : Nat} (h : L.drop p = A ++ B) : L.drop (p + A.length) = B := by
 rw [← List.drop_drop, h, List.drop_left' rfl]

def NoCont (y : Tok) : Prop := isTok y [(⟨#[40]⟩ : ByteArray), (⟨#[91]⟩ : ByteArray), (⟨#[46]⟩ : ByteArray)] = false
def Uok (e : Ex) : Prop := ∀ (L : List Tok) (n p : Nat) (hd b : Bool) (y : Tok) (Y : List Tok), 6 * e.bt.length + 6 ≤ n → L.drop p = e.bt ++ y :: Y → NoCont y → ∃ b', (recN n).unary L hd ⟨p, b⟩ = .ok e.tr ⟨p + e.bt.length, b'⟩

theorem rt_cons (k : Nat) (e : Ex) (r : List (Nat × Ex)) : rt ((k, e) :: r) = mt k :: (e.bt ++ rt r) := by unfold rt; rw [List.flatMap_cons]; rfl
theorem rt_len (r : List (Nat × Ex)) : r.length ≤ (rt r).length := by
 unfold rt
 induction r with
 | nil => simp
 | cons a r ih => rw [List.flatMap_cons, List.length_append, List.length_cons, List.length_cons]; omega
theorem rt_head {r : List (Nat × Ex)} (hr : rok r) {y : Tok} {Y : List Tok} (hy : NoCont y) : ∃ z Z, rt r ++ y :: Y = z :: Z ∧ NoCont z := by
 cases r with
 | nil => exact ⟨y, Y, rfl, hy⟩
 | cons p r =>
  obtain ⟨k, e⟩ := p
  exact ⟨mt k, (e.bt ++ rt r) ++ y :: Y, by rw [rt_cons]; rfl, (op_at (hr _ List.mem_cons_self).1).2.2.2⟩
theorem Bnd.sub {n : Nat} {u t : Nd} {r o : List (Nat × Ex)} (h : Bnd n u r t o) : ∀ p ∈ o, p ∈ r := by
 induction h with
 | nil => exact fun p hp => hp
 | stop _ => exact fun p hp => hp
 | step _ _ _ i1 i2 => exact fun p hp => List.mem_cons_of_mem _ (i1 p (i2 p hp))
theorem Bnd.len {n : Nat} {u t : Nd} {r o : List (Nat × Ex)} (h : Bnd n u r t o) : o.length ≤ r.length := by
 induction h with
 | nil => exact Nat.le_refl _
 | stop _ => exact Nat.le_refl _
 | step _ _ _ i1 i2 => simp only [List.length_cons]; omega

theorem Bnd.rlen {n : Nat} {u t : Nd} {r o : List (Nat × Ex)} (h : Bnd n u r t o) : (rt o).length ≤ (rt r).length := by
 induction h with
 | nil => exact Nat.le_refl _
 | stop _ => exact Nat.le_refl _
 | step _ _ _ i1 i2 => rw [rt_cons]; simp only [List.length_cons, List.length_append]; omega
theorem row_go {L : List Tok} {hd : Bool} {y : Tok} {Y : List Tok} (hy : NoCont y) (hl : level y = 0) {least : Nat} {left t : Nd} {r o : List (Nat × Ex)} (h : Bnd least left r t o) : ∀ {n m p : Nat} {b : Bool}, rok r → (∀ q ∈ r, Uok q.2) → 6 * (rt r).length + 6 ≤ n → r.length + 1 ≤ m → L.drop p = rt r ++ y :: Y →
  ∃ q b', binaryGo (recN n) least L hd m left ⟨p, b⟩ = .ok t ⟨q, b'⟩ ∧ L.drop q = rt o ++ y :: Y ∧ q + (rt o).length = p + (rt r).length := by
 induction h with
 | @nil least u =>
  intro n m p b _ _ _ hm hd'
  obtain ⟨m, rfl⟩ : ∃ j, m = j + 1 := ⟨m - 1, by simp at hm; omega⟩
  obtain ⟨e1, _⟩ := tok_drop hd'
  refine ⟨p, b, ?_, hd', rfl⟩
  unfold binaryGo
  simp only [e1]
  rw [if_pos (.inr hl)]
 | @stop least k u e r hk =>
  intro n m p b hr _ _ hm hd'
  obtain ⟨m, rfl⟩ : ∃ j, m = j + 1 := ⟨m - 1, by omega⟩
  have hd2 := hd'
  rw [rt_cons, List.cons_append] at hd2
  obtain ⟨e1, _⟩ := tok_drop hd2
  refine ⟨p, b, ?_, hd', rfl⟩
  unfold binaryGo
  simp only [e1]
  rw [if_pos (.inl (by rw [(op_at (show k < 13 from (hr _ List.mem_cons_self).1)).1]; omega))]
 | @step least k u x t e r m0 o hk h1 h2 ih1 ih2 =>
  intro n m p b hr hU hn hm hd'
  obtain ⟨m, rfl⟩ : ∃ j, m = j + 1 := ⟨m - 1, by omega⟩
  obtain ⟨n, rfl⟩ : ∃ j, n = j + 1 := ⟨n - 1, by omega⟩
  have hop := op_at (show k < 13 from (hr _ List.mem_cons_self).1)
  have hr2 : rok r := fun q hq => hr q (List.mem_cons_of_mem _ hq)
  have hd2 := hd'
  rw [rt_cons, List.cons_append] at hd2
  obtain ⟨e1, e2⟩ := tok_drop hd2
  rw [rt_cons] at hn
  simp only [List.length_cons, List.length_append] at hn hm
  rw [List.append_assoc] at e2
  obtain ⟨z, Z, hz1, hz2⟩ := rt_head (Y := Y) hr2 hy
  obtain ⟨b1, hu⟩ := hU _ List.mem_cons_self L n (p + 1) hd b z Z (by simp only; omega) (by rw [← hz1]; exact e2) hz2
  simp only at hu
  have e3 := drop_app e2
  obtain ⟨q1, b2, g1, g2, g3⟩ := ih1 (n := n) (m := n) (p := p + 1 + e.bt.length) (b := b1) hr2 (fun q hq => hU q (List.mem_cons_of_mem _ hq)) (by omega) (by
   have := rt_len r
   omega) e3
  have hsub : ∀ q ∈ m0, q ∈ r := h1.sub
  have hrl := h1.rlen
  have hr0 : (rt ((k, e) :: r)).length = 1 + e.bt.length + (rt r).length := by rw [rt_cons]; simp only [List.length_cons, List.length_append]; omega
  obtain ⟨q2, b3, g4, g5, g6⟩ := ih2 (n := n + 1) (m := m) (p := q1) (b := false) (fun q hq => hr2 q (hsub q hq)) (fun q hq => hU q (List.mem_cons_of_mem _ (hsub q hq))) (by omega) (by have := h1.len; omega) g2
  refine ⟨q2, b3, ?_, g5, by rw [rt_cons]; simp only [List.length_cons, List.length_append]; omega⟩
  unfold binaryGo
  simp only [e1]
  rw [if_neg (by rw [hop.1]; omega), hop.1]
  show ((binaryF n (recN n) ((lv k : Int) + 1) L hd ⟨p + 1, b⟩).then _) = _
  unfold binaryF
  rw [hu, R.then_ok]
  rw [show ((lv k : Int) + 1) = ((lv k + 1 : Nat) : Int) from rfl, g1, R.then_ok]
  exact g4

theorem unit_ok : ∀ e : Ex, e.ok → Uok e
 | .nm x, _ => by
  intro L n p hd b y Y hn hdr hy
  obtain ⟨n, rfl⟩ : ∃ j, n = j + 3 := ⟨n - 3, by omega⟩
  obtain ⟨e1, e2⟩ := tok_drop (show L.drop p = ⟨1, bts x, 0, 0⟩ :: y :: Y from hdr)
  obtain ⟨e3, _⟩ := tok_drop e2
  refine ⟨false, ?_⟩
  have i1 : ∀ ts, isR L ⟨p, b⟩ ts = false := fun ts => by unfold isR; simp only [e1]; rfl
  have i2 : isR L (St.next ⟨p, b⟩) [(⟨#[40]⟩ : ByteArray), (⟨#[91]⟩ : ByteArray), (⟨#[46]⟩ : ByteArray)] = false := by
   unfold isR
   show isTok (tokAt L (p + 1)) _ = false
   rw [e3]; exact hy
  show unaryF (recN (n + 2)) L hd ⟨p, b⟩ = _
  unfold unaryF
  rw [i1, if_neg Bool.false_ne_true]
  show primaryF (n + 1) (recN (n + 1)) L hd ⟨p, b⟩ = _
  unfold primaryF operandF
  simp only [e1]
  rw [if_neg (by omega), if_neg (by omega), if_pos trivial, R.then_ok]
  unfold primaryGo
  rw [i2, if_neg Bool.false_ne_true, R.then_ok, i1]
  rfl
 | .pr l k r, ho => by
  intro L n p hd b y Y hn hdr hy
  obtain ⟨hol, hk, hor⟩ := ho
  have hUl := unit_ok l hol
  have hUr := unit_ok r hor
  have hop := op_at hk
  simp only [Ex.bt, List.length_cons, List.length_append, List.length_nil] at hn
  obtain ⟨n, rfl⟩ : ∃ j, n = j + 5 := ⟨n - 5, by omega⟩
  have hdr1 : L.drop p = ⟨5, (⟨#[40]⟩ : ByteArray), 0, 0⟩ :: (l.bt ++ (rt [(k, r)] ++ ⟨5, (⟨#[41]⟩ : ByteArray), 0, 0⟩ :: y :: Y)) := by
   rw [hdr]
   simp [Ex.bt, rt]
  obtain ⟨e1, e2⟩ := tok_drop hdr1
  have e2' : L.drop (p + 1) = l.bt ++ mt k :: (r.bt ++ (⟨5, (⟨#[41]⟩ : ByteArray), 0, 0⟩ :: y :: Y)) := by rw [e2]; simp [rt]
  obtain ⟨b1, hu⟩ := hUl L (n + 1) (p + 1) false b (mt k) _ (by omega) e2' hop.2.2.2
  have e3 := drop_app e2
  have hbnd : Bnd 1 l.tr [(k, r)] (bin k l.tr r.tr) [] := .step hop.2.1 .nil .nil
  have hlen : (rt [(k, r)]).length = r.bt.length + 1 := by unfold rt; simp
  obtain ⟨q, b2, g1, g2, g3⟩ := row_go (L := L) (hd := false) (y := ⟨5, (⟨#[41]⟩ : ByteArray), 0, 0⟩) (Y := y :: Y) (by unfold NoCont; decide +kernel) (by decide +kernel) hbnd (n := n + 1) (m := n + 1) (p := p + 1 + l.bt.length) (b := b1)
   (fun q hq => by rw [List.mem_singleton.1 hq]; exact ⟨hk, hor⟩) (fun q hq => by rw [List.mem_singleton.1 hq]; exact hUr) (by omega) (by simp only [List.length_singleton]; omega) e3
  obtain ⟨e4, e5⟩ := tok_drop (show L.drop q = ⟨5, (⟨#[41]⟩ : ByteArray), 0, 0⟩ :: y :: Y from g2)
  obtain ⟨e6, _⟩ := tok_drop e5
  refine ⟨true, ?_⟩
  have i1 : isR L ⟨p, b⟩ [(⟨#[45]⟩ : ByteArray), (⟨#[33]⟩ : ByteArray), (⟨#[60, 45]⟩ : ByteArray)] = false := by unfold isR; simp only [e1]; decide +kernel
  have i2 : isR L ⟨p, b⟩ [(⟨#[40]⟩ : ByteArray)] = true := by unfold isR; simp only [e1]; decide +kernel
  have i3 : isR L ⟨q, b2⟩ [(⟨#[41]⟩ : ByteArray)] = true := by unfold isR; simp only [e4]; decide +kernel
  have i4 : isR L ⟨q + 1, b2⟩ [(⟨#[40]⟩ : ByteArray), (⟨#[91]⟩ : ByteArray), (⟨#[46]⟩ : ByteArray)] = false := by unfold isR; simp only [e6]; exact hy
  show unaryF (recN (n + 4)) L hd ⟨p, b⟩ = _
  unfold unaryF
  rw [i1, if_neg Bool.false_ne_true]
  show primaryF (n + 3) (recN (n + 3)) L hd ⟨p, b⟩ = _
  unfold primaryF operandF
  simp only [e1]
  rw [if_neg (by omega), if_neg (by omega), if_neg (by omega), if_pos trivial]
  unfold markedF
  rw [if_pos rfl]
  show ((R.then (R.then (binaryF (n + 1) (recN (n + 1)) 1 L false ⟨p + 1, b⟩) _) _) = _)
  unfold binaryF
  rw [hu, R.then_ok, show ((1 : Int)) = ((1 : Nat) : Int) from rfl, g1, R.then_ok]
  unfold wantR
  rw [i3, if_pos rfl, R.then_ok, R.then_ok]
  show R.then (primaryGo (n + 3) (recN (n + 3)) L (n + 3) _ _ ⟨q + 1, b2⟩) _ = _
  unfold primaryGo
  rw [i4, if_neg Bool.false_ne_true, R.then_ok, i2]
  have hq : q + 1 = p + (Ex.pr l k r).bt.length := by
   simp only [Ex.bt, List.length_cons, List.length_append, List.length_nil]
   have h0 : (rt []).length = 0 := rfl
   rw [h0] at g3
   omega
  rw [← hq]
  rfl

theorem row_ok {L : List Tok} {hd : Bool} {y : Tok} {Y : List Tok} (hy : NoCont y) (hl : level y = 0) {u : Ex} {r : List (Nat × Ex)} {t : Nd} (hu : u.ok) (hr : rok r) (h : Bnd 1 u.tr r t []) {n p : Nat} {b : Bool}
  (hn : 6 * (u.bt.length + (rt r).length) + 20 ≤ n) (hdr : L.drop p = u.bt ++ (rt r ++ y :: Y)) : ∃ b', (recN n).expr L hd ⟨p, b⟩ = .ok t ⟨p + (u.bt.length + (rt r).length), b'⟩ := by
 obtain ⟨n, rfl⟩ : ∃ j, n = j + 2 := ⟨n - 2, by omega⟩
 obtain ⟨z, Z, hz1, hz2⟩ := rt_head (Y := Y) hr hy
 obtain ⟨b1, g1⟩ := unit_ok u hu L n p hd b z Z (by omega) (by rw [hdr, hz1]) hz2
 have hlen := rt_len r
 obtain ⟨q, b2, g2, _, g4⟩ := row_go (L := L) (hd := hd) (Y := Y) hy hl h (n := n) (m := n) (p := p + u.bt.length) (b := b1) hr (fun q hq => unit_ok _ (hr q hq).2) (by omega) (by omega) (drop_app hdr)
 refine ⟨b2, ?_⟩
 show binaryF n (recN n) 1 L hd ⟨p, b⟩ = _
 unfold binaryF
 rw [g1, R.then_ok, show ((1 : Int)) = ((1 : Nat) : Int) from rfl, g2]
 simp only [rt, List.flatMap_nil, List.length_nil] at g4
 rw [show q = p + (u.bt.length + (rt r).length) by unfold rt; omega]
end Go.Proofs.ZL
