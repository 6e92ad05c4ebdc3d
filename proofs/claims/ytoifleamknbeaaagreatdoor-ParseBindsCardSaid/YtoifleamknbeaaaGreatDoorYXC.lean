/- The file with a row of units in it: its tree. -/
import Derived.Test.YtoifleamknbeaaaGreatDoorYXB
open Go Go.Am
namespace Go.Proofs.ZL
set_option maxRecDepth 100000
set_option linter.unusedSimpArgs false
set_option linter.unusedVariables false

def preT : List Tok := [⟨4, (⟨#[102, 117, 110, 99]⟩ : ByteArray), 0, 0⟩, ⟨1, (⟨#[102]⟩ : ByteArray), 0, 0⟩, ⟨5, (⟨#[40]⟩ : ByteArray), 0, 0⟩, ⟨5, (⟨#[41]⟩ : ByteArray), 0, 0⟩, ⟨5, (⟨#[123]⟩ : ByteArray), 0, 0⟩, ⟨1, (⟨#[120]⟩ : ByteArray), 0, 0⟩, ⟨5, (⟨#[61]⟩ : ByteArray), 0, 0⟩]
def sufT : List Tok := [⟨5, (⟨#[125]⟩ : ByteArray), 0, 0⟩, ⟨5, (⟨#[59]⟩ : ByteArray), 1, 0⟩, ⟨6, (⟨#[]⟩ : ByteArray), 0, 0⟩]
def rowT (u : Ex) (r : List (Nat × Ex)) : List Tok := preT ++ (u.bt ++ (rt r ++ sufT))
def rowF (t : Nd) : Nd := .mk 1 (⟨#[]⟩ : ByteArray) 0 0 (⟨#[]⟩ : ByteArray) 0 [.mk 4 (⟨#[102]⟩ : ByteArray) 0 0 (⟨#[]⟩ : ByteArray) 0 [.mk 6 (⟨#[]⟩ : ByteArray) 0 0 (⟨#[]⟩ : ByteArray) 0 [], noneN, .mk 16 (⟨#[]⟩ : ByteArray) 0 0 (⟨#[]⟩ : ByteArray) 0 [.mk 19 (⟨#[61]⟩ : ByteArray) 0 0 (⟨#[]⟩ : ByteArray) 0 [.mk 40 (⟨#[120]⟩ : ByteArray) 0 0 (⟨#[]⟩ : ByteArray) 0 [], t]]]]

section
variable {L : List Tok}
theorem is_at {p : Nat} {b : Bool} {t : Tok} (h : tokAt L p = t) (ts : List ByteArray) : isR L ⟨p, b⟩ ts = isTok t ts := by unfold isR; simp only [h]
theorem want_at {p : Nat} {b : Bool} {t : Tok} {x : ByteArray} (h : tokAt L p = t) (hx : isTok t [x] = true) : wantR L ⟨p, b⟩ x = .ok t ⟨p + 1, b⟩ := by
 unfold wantR
 rw [is_at h, hx, if_pos rfl]
 simp only [h]
 rfl
theorem name_at {p : Nat} {b : Bool} {t : Tok} (h : tokAt L p = t) (hx : t.kind = 1) : nameR L ⟨p, b⟩ = .ok t ⟨p + 1, b⟩ := by
 unfold nameR
 simp only [h]
 rw [if_pos hx]
 rfl
theorem prim_at {n p : Nat} {hd b : Bool} {x : ByteArray} {y : Tok} (h1 : tokAt L p = ⟨1, x, 0, 0⟩) (h2 : tokAt L (p + 1) = y) (hy : NoCont y) : (recN (n + 2)).primary L hd ⟨p, b⟩ = .ok (.mk 40 x 0 0 (⟨#[]⟩ : ByteArray) 0 []) ⟨p + 1, false⟩ := by
 have i1 : ∀ ts, isR L ⟨p, b⟩ ts = false := fun ts => by rw [is_at h1]; rfl
 have i2 : isR L (St.next ⟨p, b⟩) [(⟨#[40]⟩ : ByteArray), (⟨#[91]⟩ : ByteArray), (⟨#[46]⟩ : ByteArray)] = false := by
  unfold isR
  show isTok (tokAt L (p + 1)) _ = false
  rw [h2]; exact hy
 show primaryF (n + 1) (recN (n + 1)) L hd ⟨p, b⟩ = _
 unfold primaryF operandF
 simp only [h1]
 rw [if_neg (by omega), if_neg (by omega), if_pos trivial, R.then_ok]
 unfold primaryGo
 rw [i2, if_neg Bool.false_ne_true, R.then_ok, i1]
 rfl

theorem file_row {u : Ex} {r : List (Nat × Ex)} {t : Nd} (hu : u.ok) (hr : rok r) (h : Bnd 1 u.tr r t []) {n : Nat} (hn : 6 * (u.bt.length + (rt r).length) + 20 ≤ n) :
  ∃ s, fileF (n + 5) (recN (n + 5)) (rowT u r) false ⟨0, false⟩ = .ok (rowF t) s := by
 have hT : ∀ i, i < 7 → tokAt (rowT u r) i = preT.getD i ⟨6, (⟨#[]⟩ : ByteArray), 0, 0⟩ := fun i hi => by
  unfold tokAt rowT
  rw [List.getD_eq_getElem?_getD, List.getD_eq_getElem?_getD, List.getElem?_append_left (show i < preT.length from hi)]
 have hd7 : (rowT u r).drop 7 = u.bt ++ (rt r ++ ⟨5, (⟨#[125]⟩ : ByteArray), 0, 0⟩ :: [⟨5, (⟨#[59]⟩ : ByteArray), 1, 0⟩, ⟨6, (⟨#[]⟩ : ByteArray), 0, 0⟩]) := rfl
 have hdq : (rowT u r).drop (7 + (u.bt.length + (rt r).length)) = ⟨5, (⟨#[125]⟩ : ByteArray), 0, 0⟩ :: [⟨5, (⟨#[59]⟩ : ByteArray), 1, 0⟩, ⟨6, (⟨#[]⟩ : ByteArray), 0, 0⟩] := by
  have := drop_app (drop_app hd7)
  rw [show 7 + (u.bt.length + (rt r).length) = 7 + u.bt.length + (rt r).length by omega]; exact this
 generalize hq : 7 + (u.bt.length + (rt r).length) = q at hdq
 obtain ⟨q1, hd1⟩ := tok_drop hdq
 obtain ⟨q2, hd2⟩ := tok_drop hd1
 obtain ⟨q3, _⟩ := tok_drop hd2
 obtain ⟨b1, hx⟩ := row_ok (L := rowT u r) (hd := false) (y := ⟨5, (⟨#[125]⟩ : ByteArray), 0, 0⟩) (by unfold NoCont; decide +kernel) (by decide +kernel) hu hr h (b := false) hn hd7
 rw [hq] at hx
 generalize rowT u r = L at *
 have a0 := hT 0 (by omega)
 have a1 := hT 1 (by omega)
 have a2 := hT 2 (by omega)
 have a3 := hT 3 (by omega)
 have a4 := hT 4 (by omega)
 have a5 := hT 5 (by omega)
 have a6 := hT 6 (by omega)
 simp only [preT, List.getD_cons_zero, List.getD_cons_succ] at a0 a1 a2 a3 a4 a5 a6
 have hsimp : ∀ b, simpleF (recN n) L false ⟨5, b⟩ = .ok (.mk 19 (⟨#[61]⟩ : ByteArray) 0 0 (⟨#[]⟩ : ByteArray) 0 [.mk 40 (⟨#[120]⟩ : ByteArray) 0 0 (⟨#[]⟩ : ByteArray) 0 [], t]) ⟨q, b1⟩ := fun b => by
  obtain ⟨n, rfl⟩ : ∃ j, n = j + 2 := ⟨n - 2, by omega⟩
  unfold simpleF
  rw [is_at a5, show isTok (⟨1, (⟨#[120]⟩ : ByteArray), 0, 0⟩ : Tok) [(⟨#[60, 45]⟩ : ByteArray)] = false from rfl, if_neg Bool.false_ne_true, prim_at a5 a6 (by unfold NoCont; decide +kernel), R.then_ok]
  unfold restF
  simp only [is_at a6, a6]
  rw [show isTok (⟨5, (⟨#[61]⟩ : ByteArray), 0, 0⟩ : Tok) [(⟨#[58, 61]⟩ : ByteArray)] = false by decide +kernel, show isTok (⟨5, (⟨#[61]⟩ : ByteArray), 0, 0⟩ : Tok) [(⟨#[61]⟩ : ByteArray), (⟨#[43, 61]⟩ : ByteArray), (⟨#[45, 61]⟩ : ByteArray), (⟨#[42, 61]⟩ : ByteArray)] = true by decide +kernel]
  rw [if_neg (by simp), if_pos (by decide)]
  show R.then ((recN (n + 2)).expr L false ⟨7, false⟩) _ = _
  rw [hx, R.then_ok]
  rfl
 have hstmt : ∀ b, stmtF (recN (n + 1)) L false ⟨5, b⟩ = .ok (.mk 19 (⟨#[61]⟩ : ByteArray) 0 0 (⟨#[]⟩ : ByteArray) 0 [.mk 40 (⟨#[120]⟩ : ByteArray) 0 0 (⟨#[]⟩ : ByteArray) 0 [], t]) ⟨q, b1⟩ := fun b => by
  unfold stmtF
  simp only [a5, is_at a5]
  rw [if_pos (by omega), show isTok (⟨1, (⟨#[120]⟩ : ByteArray), 0, 0⟩ : Tok) [(⟨#[123]⟩ : ByteArray)] = false from rfl, if_neg Bool.false_ne_true]
  unfold plainF
  simp only [a5]
  rw [show isMark (tokAt L (5 + 1)) (⟨#[58]⟩ : ByteArray) = false by rw [a6]; decide +kernel, Bool.and_false, if_neg Bool.false_ne_true]
  exact hsimp b
 have hstmts : ∀ b, stmtsF (n + 2) (recN (n + 2)) L false ⟨5, b⟩ = .ok [.mk 19 (⟨#[61]⟩ : ByteArray) 0 0 (⟨#[]⟩ : ByteArray) 0 [.mk 40 (⟨#[120]⟩ : ByteArray) 0 0 (⟨#[]⟩ : ByteArray) 0 [], t]] ⟨q, b1⟩ := fun b => by
  show stmtsGo (recN (n + 2)) L false (n + 1 + 1) [] ⟨5, b⟩ = _
  unfold stmtsGo
  rw [is_at a5, is_at a5, show isTok (⟨1, (⟨#[120]⟩ : ByteArray), 0, 0⟩ : Tok) [(⟨#[59]⟩ : ByteArray)] = false from rfl, show isTok (⟨1, (⟨#[120]⟩ : ByteArray), 0, 0⟩ : Tok) endTexts = false from rfl, if_neg Bool.false_ne_true, if_neg Bool.false_ne_true]
  show R.then (stmtF (recN (n + 1)) L false ⟨5, b⟩) _ = _
  rw [hstmt, R.then_ok, is_at q1, show isTok (⟨5, (⟨#[125]⟩ : ByteArray), 0, 0⟩ : Tok) endTexts = true by decide +kernel, if_pos rfl, R.then_ok]
  unfold stmtsGo
  rw [is_at q1, is_at q1, show isTok (⟨5, (⟨#[125]⟩ : ByteArray), 0, 0⟩ : Tok) [(⟨#[59]⟩ : ByteArray)] = false by decide +kernel, show isTok (⟨5, (⟨#[125]⟩ : ByteArray), 0, 0⟩ : Tok) endTexts = true by decide +kernel, if_neg Bool.false_ne_true, if_pos rfl]
  rfl
 have hblock : ∀ b, blockF (recN (n + 3)) L false ⟨4, b⟩ = .ok (.mk 16 (⟨#[]⟩ : ByteArray) 0 0 (⟨#[]⟩ : ByteArray) 0 [.mk 19 (⟨#[61]⟩ : ByteArray) 0 0 (⟨#[]⟩ : ByteArray) 0 [.mk 40 (⟨#[120]⟩ : ByteArray) 0 0 (⟨#[]⟩ : ByteArray) 0 [], t]]) ⟨q + 1, b1⟩ := fun b => by
  unfold blockF
  rw [want_at a4 (by decide +kernel), R.then_ok]
  show R.then (stmtsF (n + 2) (recN (n + 2)) L false ⟨5, b⟩) _ = _
  rw [hstmts, R.then_ok, want_at q1 (by decide +kernel), R.then_ok]
  rfl
 have hfun : ∀ b, functionF (n + 4) (recN (n + 4)) L false ⟨2, b⟩ = .ok [.mk 6 (⟨#[]⟩ : ByteArray) 0 0 (⟨#[]⟩ : ByteArray) 0 [], noneN, .mk 16 (⟨#[]⟩ : ByteArray) 0 0 (⟨#[]⟩ : ByteArray) 0 [.mk 19 (⟨#[61]⟩ : ByteArray) 0 0 (⟨#[]⟩ : ByteArray) 0 [.mk 40 (⟨#[120]⟩ : ByteArray) 0 0 (⟨#[]⟩ : ByteArray) 0 [], t]]] ⟨q + 1, b1⟩ := fun b => by
  unfold functionF
  rw [want_at a2 (by decide +kernel), R.then_ok]
  show R.then (untilR L [(⟨#[41]⟩ : ByteArray)] _ (n + 3 + 1) [] ⟨3, b⟩) _ = _
  unfold untilR
  rw [is_at a3, show isTok (⟨5, (⟨#[41]⟩ : ByteArray), 0, 0⟩ : Tok) [(⟨#[41]⟩ : ByteArray)] = true by decide +kernel, if_pos rfl, R.then_ok]
  show R.then (if isR L ⟨4, b⟩ [(⟨#[123]⟩ : ByteArray)] = true then _ else _) _ = _
  rw [is_at a4, show isTok (⟨5, (⟨#[123]⟩ : ByteArray), 0, 0⟩ : Tok) [(⟨#[123]⟩ : ByteArray)] = true by decide +kernel, if_pos rfl, R.then_ok]
  show R.then (blockF (recN (n + 3)) L false ⟨4, b⟩) _ = _
  rw [hblock, R.then_ok]
  rfl
 refine ⟨⟨q + 2, b1⟩, ?_⟩
 unfold fileF
 show R.then (fileGo (n + 5) (recN (n + 5)) L false (n + 4 + 1) [] ⟨0, false⟩) _ = _
 unfold fileGo
 simp only [a0]
 rw [if_neg (by omega)]
 have hdecl : declF (n + 5) (recN (n + 5)) L false ⟨0, false⟩ = .ok (.mk 4 (⟨#[102]⟩ : ByteArray) 0 0 (⟨#[]⟩ : ByteArray) 0 [.mk 6 (⟨#[]⟩ : ByteArray) 0 0 (⟨#[]⟩ : ByteArray) 0 [], noneN, .mk 16 (⟨#[]⟩ : ByteArray) 0 0 (⟨#[]⟩ : ByteArray) 0 [.mk 19 (⟨#[61]⟩ : ByteArray) 0 0 (⟨#[]⟩ : ByteArray) 0 [.mk 40 (⟨#[120]⟩ : ByteArray) 0 0 (⟨#[]⟩ : ByteArray) 0 [], t]]]) ⟨q + 1, b1⟩ := by
  unfold declF
  simp only [a0, is_at a0]
  rw [show isTok (⟨4, (⟨#[102, 117, 110, 99]⟩ : ByteArray), 0, 0⟩ : Tok) [(⟨#[116, 121, 112, 101]⟩ : ByteArray)] = false by decide +kernel, show isTok (⟨4, (⟨#[102, 117, 110, 99]⟩ : ByteArray), 0, 0⟩ : Tok) [(⟨#[118, 97, 114]⟩ : ByteArray)] = false by decide +kernel, show isTok (⟨4, (⟨#[102, 117, 110, 99]⟩ : ByteArray), 0, 0⟩ : Tok) [(⟨#[102, 117, 110, 99]⟩ : ByteArray)] = true by decide +kernel, if_neg Bool.false_ne_true, if_neg Bool.false_ne_true, if_pos rfl]
  show R.then (nameR L ⟨1, false⟩) _ = _
  rw [name_at a1 rfl, R.then_ok]
  show R.then (functionF (n + 4) (recN (n + 4)) L false ⟨2, false⟩) _ = _
  rw [hfun, R.then_ok]
  rfl
 rw [hdecl, R.then_ok, want_at q2 (by decide +kernel), R.then_ok]
 show R.then (fileGo (n + 5) (recN (n + 5)) L false (n + 3 + 1) _ ⟨q + 2, b1⟩) _ = _
 unfold fileGo
 simp only [q3]
 rw [if_pos trivial, R.then_ok]
 rfl
end
end Go.Proofs.ZL
