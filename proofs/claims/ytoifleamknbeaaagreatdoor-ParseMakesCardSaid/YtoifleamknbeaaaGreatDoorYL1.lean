/- The lexer, first part. -/
import Derived.Test.YtoifleamknbeaaaGreatDoorZA4
import Derived.Test.YtoifleamknbeaaaGreatDoorChecked
section
open Go Go.Am
namespace Go.Proofs.ZL
set_option maxRecDepth 100000
set_option linter.unusedSimpArgs false
set_option linter.unusedVariables false
set_option maxHeartbeats 4000000
variable {h : aE} {Q : bW → Prop} {p : Nat} {hd : Bool} {src : ByteArray}
def szs : List Nat := [1, 1, 1, 1, 1, 1, 1, 4, 4, 1, 1, 1, 1, 2, 2, 1, 1, 1, 1, 1, 1, 1, 1, 1, 7, 7, 2, 2, 1, 1, 1, 1, 1, 1, 1, 4, 4, 1, 1, 1, 1, 1, 1, 1, 1, 1, 1, 1, 1, 1, 2, 2, 1, 1, 1, 5, 5, 1, 1, 1, 1, 1, 1, 1, 3, 3, 1, 1, 1, 1, 1, 1, 1, 1, 1, 1, 4, 4, 1, 1, 3, 3, 1, 1, 1, 1, 1, 1, 1, 1, 1, 1, 1, 1, 1, 1, 1, 1, 1, 1, 1, 1, 1, 1, 1, 1, 1, 1, 1, 1, 1, 1, 1, 1, 2, 2, 1, 1, 1, 1, 2, 1, 1, 1, 1, 1, 1, 1, 1, 1, 1, 1, 1, 1, 1, 1, 1, 1, 1, 1, 3, 3, 1, 1, 1, 1, 1, 1, 1, 1, 1, 1, 1, 1, 1, 1, 1, 1, 1, 1, 24, 1, 1, 1, 1, 1, 1, 20, 1, 65, 1, 1, 1, 32, 64, 4, 4, 0, 0, 0, 1, 1, 1, 1, 1, 1, 11, 11, 1, 1, 2, 2, 1, 1, 1, 5, 5, 1, 1, 4, 4, 1]
def aJ5 : List (List (Option Nat)) := [[], [], [], [], [], [], [], [some 0, some 1, some 2, some 3], [some 0, some 1, some 2, some 3], [], [], [], [], [some 0, some 1], [some 0, some 1], [], [], [], [some 0], [some 0], [], [], [], [], [some 0, some 1, some 2, some 3, some 4, some 5, some 6], [some 0, some 1, some 2, some 3, some 4, some 5, some 6], [some 0, some 1], [some 0, some 1], [], [], [], [], [], [], [], [some 0, some 1, some 2, some 3], [some 0, some 1, some 2, some 3], [], [], [], [], [], [], [], [], [], [], [], [], [], [some 0, some 1], [some 0, some 1], [], [], [], [some 0, some 1, some 2, some 3, some 4], [some 0, some 1, some 2, some 3, some 4], [], [], [], [], [], [], [], [some 0, some 1, some 2], [some 0, some 1, some 2], [], [some 0], [some 0], [], [], [], [], [some 0], [some 0], [], [some 0, some 1, some 2, some 3], [some 0, some 1, some 2, some 3], [], [], [some 0, some 1, some 2], [some 0, some 1, some 2], [], [], [], [], [], [], [], [], [], [], [], [], [], [], [], [some 0], [some 0], [], [], [], [], [], [], [], [], [], [], [], [], [], [], [], [some 0, some 1], [some 0, some 1], [], [], [], [], [], [], [], [], [], [], [], [], [], [], [], [], [], [], [], [], [], [], [], [], [some 0, some 1, some 2], [some 0, some 1, some 2], [], [], [], [], [], [], [], [], [], [some 0], [some 0], [], [], [], [], [], [], [], [], [], [], [], [], [], [], [], [], [], [], [], [], [], [], [some 0, some 1, some 2, some 3], [some 0, some 1, some 2, some 3], [], [none], [none], [], [], [], [], [], [], [some 0, some 1, some 2, some 3, some 4, some 5, some 6, some 7, some 8, some 9, some 10], [some 0, some 1, some 2, some 3, some 4, some 5, some 6, some 7, some 8, some 9, some 10], [], [], [some 0, some 1], [some 0, some 1], [], [], [], [some 0, some 1, some 2, some 3, some 4], [some 0, some 1, some 2, some 3, some 4], [], [], [some 0, some 1, some 2, some 3], [some 0, some 1, some 2, some 3], []]
def fits : List (Option (Nat × Nat)) := [none, some (1, 8), some (1, 8), some (1, 8), some (1, 1), some (1, 1), some (1, 1), some (4, 24), some (4, 24), some (1, 16), some (1, 16), some (1, 16), some (1, 8), some (2, 24), some (2, 24), some (1, 8), some (1, 8), some (1, 8), some (1, 8), some (1, 8), some (1, 16), some (1, 4), some (1, 8), some (1, 24), some (7, 88), some (7, 88), some (2, 16), some (2, 16), none, some (1, 8), some (1, 8), some (1, 8), some (1, 24), none, some (1, 8), some (4, 40), some (4, 40), some (1, 8), some (1, 8), some (1, 8), some (1, 24), some (1, 24), some (1, 24), some (1, 8), some (1, 8), some (1, 24), some (1, 16), some (1, 16), none, some (1, 8), some (2, 24), some (2, 24), some (1, 8), some (1, 8), some (1, 8), some (5, 48), some (5, 48), some (1, 8), some (1, 8), some (1, 8), some (1, 8), none, some (1, 8), some (1, 8), some (3, 48), some (3, 48), some (1, 8), some (1, 8), some (1, 8), some (1, 8), none, some (1, 8), none, some (1, 16), some (1, 16), some (1, 8), some (4, 40), some (4, 40), some (1, 8), some (1, 8), some (3, 24), some (3, 24), some (1, 8), some (1, 16), some (1, 16), some (1, 8), some (1, 1), some (1, 8), some (1, 8), some (1, 8), some (1, 8), some (1, 8), some (1, 8), some (1, 8), some (1, 8), some (1, 8), some (1, 8), some (1, 8), some (1, 8), some (1, 8), some (1, 8), some (1, 8), some (1, 8), some (1, 16), none, some (1, 8), some (1, 16), some (1, 16), some (1, 24), some (1, 8), some (1, 8), some (1, 8), some (1, 8), some (1, 8), some (2, 32), some (2, 32), none, some (1, 8), none, some (1, 8), some (2, 16), some (1, 8), some (1, 8), some (1, 16), some (1, 8), some (1, 8), some (1, 8), some (1, 8), none, some (1, 8), some (1, 8), some (1, 8), some (1, 8), some (1, 8), some (1, 8), some (1, 8), some (1, 8), none, some (1, 8), some (1, 8), some (3, 48), some (3, 48), some (1, 8), some (1, 8), some (1, 8), some (1, 8), some (1, 8), some (1, 8), some (1, 8), some (1, 8), some (1, 8), some (1, 16), some (1, 16), some (1, 8), none, some (1, 8), some (1, 8), some (1, 8), some (1, 8), some (1, 8), some (24, 24), some (1, 8), some (1, 8), none, some (1, 8), some (1, 8), some (1, 8), some (20, 160), some (1, 4), some (65, 65), some (1, 8), some (1, 8), some (1, 8), some (32, 32), some (64, 64), some (4, 40), some (4, 40), none, none, none, some (1, 8), some (1, 8), some (1, 1), some (1, 8), some (1, 4), some (1, 4), some (11, 48), some (11, 48), some (1, 8), some (1, 8), some (2, 24), some (2, 24), some (1, 8), some (1, 8), some (1, 2), some (5, 16), some (5, 16), some (1, 24), some (1, 4), some (4, 16), some (4, 16), some (1, 8)]

theorem aAr {α β : Type} {f : Nat → α} {g : β → α} {l : List β} (hl : (List.range l.length).map f = l.map g) {t : Nat} {m : β} (h : l[t]? = some m) : f t = g m := by
 have ht : t < l.length := by
  rcases Nat.lt_or_ge t l.length with h' | h'
  ·exact h'
  ·rw [List.getElem?_eq_none h'] at h; cases h
 have h1 : ((List.range l.length).map f)[t]? = some (f t) := by
  rw [List.getElem?_map, List.getElem?_range ht]; rfl
 rw [hl, List.getElem?_map, h] at h1
 exact (Option.some.inj h1).symm

theorem aKn : (List.range szs.length).map (dJ Tryz.prog) = szs.map some := by decide +kernel
theorem aEh : (List.range aJ5.length).map (jV Tryz.prog) = aJ5.map id := by decide +kernel
theorem aEz : (List.range fits.length).map (eV Tryz.prog) = fits.map id := by decide +kernel

theorem fK {t m : Nat} (h : szs[t]? = some m) : dJ Tryz.prog t = some m := aAr aKn h
theorem xR {t f o : Nat} {l : List (Option Nat)} (h : aJ5[t]? = some l) (h2 : l[f]? = some (some o)) : (jV Tryz.prog t)[f]? = some (some o) := by
 rw [aAr aEh h]; exact h2
theorem aX {t m b : Nat} (h : fits[t]? = some (some (m, b))) : eV Tryz.prog t = some (m, b) := aAr aEz h
def xS : Value → Option Int
 | .iface t (.agg cs) =>
  if t = 68 then match cs.toList with
   | [.int .i64 p] => some p
   | _ => none
  else if t = 115 then match cs.toList with
   | [.string _, .iface u (.agg ds)] => if u = 68 then match ds.toList with
     | [.int .i64 p] => some p
     | _ => none
    else none
   | _ => none
  else none
 | _ => none

def iJ (p : Int) (w : ByteArray) : Value := .agg #[.int .i64 p, .iface 123 (.string w)]
def rU : Value → Option (Int × ByteArray)
 | .iface t (.agg cs) =>
  if t = 74 then match cs.toList with
   | [.iface u (.agg ds)] => if u = 51 then match ds.toList with
     | [.int .i64 p, .iface q (.string w)] => if q = 123 then some (p, w) else none
     | _ => none
    else none
   | _ => none
  else none
 | _ => none

noncomputable def asO : bS → List Value → aE → Option bW := fun _ args h =>
 match args with
 | [e, .iface t (.pointer (some ⟨i, 0, none⟩))] =>
  if t = 69 then match xS e with
   | some p => (fV Tryz.prog 68 i 0 (.agg #[.int .i64 p]) h).map fun h' => .ret (.bool true) h'
   | none => none
  else if t = 53 then match e with
   | .nilIface => some (.ret (.bool false) h)
   | e => match rU e with
    | some (p, w) => (fV Tryz.prog 51 i 0 (iJ p w) h).map fun h' => .ret (.bool true) h'
    | none => none
  else none
 | _ => none

def aBx : List PanicEntry → Option (Int × ByteArray)
 | [⟨.iface u (.agg ds), false, false⟩] => if u = 51 then match ds.toList with
   | [.int .i64 p, .iface q (.string w)] => if q = 123 then some (p, w) else none
   | _ => none
  else none
 | _ => none

def aJp : Code → Code
 | .seq a _ => a
 | c => c
def aAi : Code → Code
 | .seq _ b => b
 | c => c
def aA0 : Code → Array Oper
 | .region _ ops _ => ops
 | _ => #[]
def aAp : Code → List (Nat × Array Oper)
 | .seq (.region id ops _) c => (id, ops) :: aAp c
 | _ => []
def aLq : Code → Code
 | .cond _ a _ => a
 | c => c
noncomputable def oZ : Array Oper := aA0 (aLq (aAi (aAi ((Tryz.f30).body.getD .skip))))
def mS (v1 v2 : Value) (i : Nat) : Env := fun t => if t = 0 then some v1 else if t = 1 then some v2 else if t = 2 then some (.pointer (some ⟨i, 0, none⟩)) else none
noncomputable def qK : rH := fun C v1 v2 ch h => match aBx ch with
 | some (p, w) => match kY Tryz.prog 0 C (Tryz.f30).ntmps oZ true (mS v1 v2 h.next) (h.alloc (.cells false [.int .i64 p, .iface 123 (.string w)])) with
  | some (.ok _ h2) => some h2
  | _ => none
 | none => none
theorem wN : ∀ C C', bS.le C C' → ∀ v1 v2 ch h h4, qK C v1 v2 ch h = some h4 → qK C' v1 v2 ch h = some h4 := by
 intro C C' hl v1 v2 ch h h4 hc
 unfold qK at hc ⊢
 split at hc
 ·rename_i p w hp
  split at hc
  ·rename_i e h2 hr
   rw [jG hl _ _ _ _ _ _ hr]; exact hc
  ·cases hc
 ·cases hc
noncomputable def lE : Code := (Tryz.f20).body.getD .skip
noncomputable def aB9 : bS → List Value → aE → Option bW :=
 lG Tryz.prog 0 (Tryz.f20).ntmps (Tryz.f20).results.toList (aA0 (aJp lE)) 2 3 5 30 (aAp (aAi (aAi lE))) qK

noncomputable def X : fE := fun f => if f = 21 then some asO else if f = 20 then some aB9 else none
theorem hX : bZ X := ⟨fun f o h => by
 unfold X at h
 split at h
 ·cases h
  intro C C' _ args hp r hr
  exact hr
 ·split at h
  ·cases h
   intro C C' hl args hp r hr
   exact aDh hl (wN _ _ hl) hr
  ·cases h⟩
abbrev G : Nat := 0

theorem Wk {P : Program} {n : Nat} {f : FuncId} {fn : Func} {c : Code} {args : List Value} (hf : P.funcs[f]? = some fn) (hn : fn.ntmps = n) (hb : fn.body = some c := by exact rfl) (hx : X f = none := by exact rfl) (hl : Nat.ble args.length n = true := by exact rfl) (w : WC P G X n c (jD args) h (fun e h => ∃ vs, bV P e h fn.results.toList = some vs ∧ Q (.ret (answer vs) h)) (fun _ _ _ => False)
 (fun e h => ∃ vs, bV P e h fn.results.toList = some vs ∧ Q (.ret (answer vs) h)) fun ch h => Q (.panic ch h)) : aP P G X f args h Q := aP.walk hX hf hb hx hn hl w
section
variable {P : Program} {n : Nat} {N : Env → aE → Prop} {E : Nat → Env → aE → Prop} {R : Env → aE → Prop} {F : List PanicEntry → aE → Prop} {env : Env} {h : aE} {ops o2 : Array Oper} {c : Operand} {a b : Code} {id i hG : Nat} {o : Oper} {l : List Oper} {m : List cT} {pend : List Pe}
theorem QN (hw : WR P G X n ops ops.toList env h (fun e h => WC P G X n b e h N E R F) F) : WC P G X n (.seq (.region id ops false) b) env h N E R F := Go.Am.QN hX hw
theorem QO (hw : WR P G X n o2 o2.toList env h (fun e h => WC P G X n b e h N E R F) F) : WR P G X n ops [] env h (fun e h => WC P G X n (.seq (.region id o2 false) b) e h N E R F) F := Go.Am.QO hX hw
theorem QP (hw : WC P G X n b env h N E R F) (hc : aL G env c = some (.bool false) := by first | rfl | assumption) : WR P G X n ops [] env h (fun e h => WC P G X n (.cond c a b) e h N E R F) F := Go.Am.QP hX hw hc
theorem QQ (hw : WC P G X n a env h N E R F) (hc : aL G env c = some (.bool true) := by first | rfl | assumption) : WR P G X n ops [] env h (fun e h => WC P G X n (.cond c a b) e h N E R F) F := Go.Am.QQ hX hw hc
theorem QR (hw : WC P G X n a env h N E R F) (hc : aL G env c = some (.bool true) := by first | rfl | assumption) : WC P G X n (.cond c a b) env h N E R F := Go.Am.QR hX hw hc
theorem QS (hw : WC P G X n b env h N E R F) (hc : aL G env c = some (.bool false) := by first | rfl | assumption) : WC P G X n (.cond c a b) env h N E R F := Go.Am.QS hX hw hc
theorem QU (hw : WC P G X n a env h (fun e h => WC P G X n b e h N E R F) E R F) : WC P G X n (.seq a b) env h N E R F := Go.Am.QU hX hw
theorem QV (hw : WR P G X n ops ops.toList env h N F) : WC P G X n (.region id ops false) env h N E R F := Go.Am.QV hX hw
end
section
variable {P : Program} {n : Nat} {N : Env → aE → Prop} {E : Nat → Env → aE → Prop} {R : Env → aE → Prop} {F : List PanicEntry → aE → Prop} {env : Env} {h : aE}
theorem Bk {id : Nat} {b : Code} (hw : WC P G X n b env h N (fun i e h => if i = id then N e h else E i e h) R F) : WC P G X n (.block id b) env h N E R F := WC.block hX hw
theorem Gd {id : Nat} {ops : Array Oper} (l : List cT) (hp : aGj P ops = some l := by decide +kernel) (w : WD P G X n ops l [] env h N F) : WC P G X n (.region id ops true) env h N E R F := WC.drawn hX hp w
end
def cQ (c : Int) : Bool := decide (97 ≤ c ∧ c ≤ 122 ∨ 65 ≤ c ∧ c ≤ 90 ∨ c = 95)
def bC (c : Int) : Bool := decide (48 ≤ c ∧ c ≤ 57)

theorem aFh {p : Prop} [Decidable p] (hp : p) : Value.bool true = .bool (decide p) := by rw [decide_eq_true hp]
theorem aE0 {p : Prop} [Decidable p] (hp : ¬p) : Value.bool false = .bool (decide p) := by rw [decide_eq_false hp]

theorem q5 {c : Int} (hq : Q (.ret (.bool (cQ c)) h)) : aP Tryz.prog G X 64 [.int .u8 c] h Q := by
 refine Wk Tryz.func64 Tryz.ntmps64 (w:=QN (Mb (w:=QO (Ma (w:=MI (w:=fun hh => Ma (w:=Ma (w:=MG (w:=fun hh => Mc (w:=Ma (w:=MA (w:=MA (w:=MA (w:=MA (w:=MA (w:=MA (w:=Mc (w:=Ma (w:=MA (w:=MA (w:=Mc (w:=Mb (w:=QM ?_))))))))))))))) (v:=fun hh => Mc (w:=Ma (w:=Ma (w:=MI (w:=fun hh => Ma (w:=Ma (w:=MG (w:=fun hh => by omega) (v:=fun hh => Mc (w:=Md (w:=Ma (w:=Ma (w:=MD (w:=fun hh => by omega) (v:=fun hh => Md (w:=Mb (w:=QM ?_))))))))))) (v:=fun hh => by omega)))))))) (v:=fun hh => Ma (w:=MA (w:=MA (w:=Md (w:=Ma (w:=Ma (w:=MI (w:=fun hh => Ma (w:=Ma (w:=MG (w:=fun hh => Mc (w:=Md (w:=Ma (w:=MA (w:=MA (w:=Mc (w:=Mb (w:=QM ?_)))))))) (v:=fun hh => Mc (w:=Md (w:=Ma (w:=Ma (w:=MD (w:=fun hh => Md (w:=Mb (w:=QM ?_))) (v:=fun hh => Md (w:=Mb (w:=QM ?_))))))))))) (v:=fun hh => Ma (w:=MA (w:=MA (w:=Md (w:=Md (w:=Ma (w:=Ma (w:=MD (w:=fun hh => by omega) (v:=fun hh => Md (w:=Mb (w:=QM ?_)))))))))))))))))))))))
 all_goals (refine ⟨_, rfl, ?_⟩; refine (congrArg (fun v => Q (.ret v h)) (?_ : answer _ = _)).mpr hq; unfold cQ; first | exact aFh (by omega) | exact aE0 (by omega))

theorem xO {c : Int} (hq : Q (.ret (.bool (bC c)) h)) : aP Tryz.prog G X 66 [.int .u8 c] h Q := by
 refine Wk Tryz.func66 Tryz.ntmps66 (w:=QN (Mb (w:=QO (Ma (w:=MI (w:=fun hh => Ma (w:=Ma (w:=MG (w:=fun hh => Mc (w:=Mb (w:=QM ?_))) (v:=fun hh => Mc (w:=Mb (w:=QM ?_)))))) (v:=fun hh => Ma (w:=MA (w:=MA (w:=Md (w:=Mb (w:=QM ?_)))))))))))
 all_goals (refine ⟨_, rfl, ?_⟩; refine (congrArg (fun v => Q (.ret v h)) (?_ : answer _ = _)).mpr hq; unfold bC; first | exact aFh (by omega) | exact aE0 (by omega))

theorem aM {P : Program} {f : FuncId} {fn : Func} (hf : P.funcs[f]? = some fn) (hb : fn.body.isSome = true) (hn : (fn.name == "runtime.NumGoroutine") = false) (vs : List Value) : aO P f vs = some (.enter f vs) := by
 simp only [aO, hf, hb, hn, Bool.not_false, Bool.and_self, if_true]
theorem aMt : ∀ vs, aO Tryz.prog 11 vs = some (.enter 11 vs) := aM Tryz.func11 rfl (by decide +kernel)
theorem aKm : ∀ vs, aO Tryz.prog 12 vs = some (.enter 12 vs) := aM Tryz.func12 rfl (by decide +kernel)
theorem aMg : ∀ vs, aO Tryz.prog 13 vs = some (.enter 13 vs) := aM Tryz.func13 rfl (by decide +kernel)
theorem aKt : ∀ vs, aO Tryz.prog 14 vs = some (.enter 14 vs) := aM Tryz.func14 rfl (by decide +kernel)
theorem aM4 : ∀ vs, aO Tryz.prog 15 vs = some (.enter 15 vs) := aM Tryz.func15 rfl (by decide +kernel)
theorem aM9 : ∀ vs, aO Tryz.prog 19 vs = some (.enter 19 vs) := aM Tryz.func19 rfl (by decide +kernel)
theorem aNg : ∀ vs, aO Tryz.prog 20 vs = some (.enter 20 vs) := aM Tryz.func20 rfl (by decide +kernel)
theorem aHq : ∀ vs, aO Tryz.prog 21 vs = some (.enter 21 vs) := aM Tryz.func21 rfl (by decide +kernel)
theorem gG : ∀ vs, aO Tryz.prog 22 vs = some (.enter 22 vs) := aM Tryz.func22 rfl (by decide +kernel)
theorem aNd : ∀ vs, aO Tryz.prog 23 vs = some (.enter 23 vs) := aM Tryz.func23 rfl (by decide +kernel)
theorem dU : ∀ vs, aO Tryz.prog 24 vs = some (.enter 24 vs) := aM Tryz.func24 rfl (by decide +kernel)
theorem aKz : ∀ vs, aO Tryz.prog 25 vs = some (.enter 25 vs) := aM Tryz.func25 rfl (by decide +kernel)
theorem aLi : ∀ vs, aO Tryz.prog 26 vs = some (.enter 26 vs) := aM Tryz.func26 rfl (by decide +kernel)
theorem uX : ∀ vs, aO Tryz.prog 27 vs = some (.enter 27 vs) := aM Tryz.func27 rfl (by decide +kernel)
theorem aMu : ∀ vs, aO Tryz.prog 28 vs = some (.enter 28 vs) := aM Tryz.func28 rfl (by decide +kernel)
theorem aM8 : ∀ vs, aO Tryz.prog 29 vs = some (.enter 29 vs) := aM Tryz.func29 rfl (by decide +kernel)
theorem aM2 : ∀ vs, aO Tryz.prog 31 vs = some (.enter 31 vs) := aM Tryz.func31 rfl (by decide +kernel)
theorem qX : ∀ vs, aO Tryz.prog 36 vs = some (.enter 36 vs) := aM Tryz.func36 rfl (by decide +kernel)
theorem q7 : ∀ vs, aO Tryz.prog 37 vs = some (.enter 37 vs) := aM Tryz.func37 rfl (by decide +kernel)
theorem gY : ∀ vs, aO Tryz.prog 38 vs = some (.enter 38 vs) := aM Tryz.func38 rfl (by decide +kernel)
theorem r4 : ∀ vs, aO Tryz.prog 39 vs = some (.enter 39 vs) := aM Tryz.func39 rfl (by decide +kernel)
theorem cL : ∀ vs, aO Tryz.prog 40 vs = some (.enter 40 vs) := aM Tryz.func40 rfl (by decide +kernel)
theorem aKs : ∀ vs, aO Tryz.prog 41 vs = some (.enter 41 vs) := aM Tryz.func41 rfl (by decide +kernel)
theorem oM : ∀ vs, aO Tryz.prog 42 vs = some (.enter 42 vs) := aM Tryz.func42 rfl (by decide +kernel)
theorem aHb : ∀ vs, aO Tryz.prog 43 vs = some (.enter 43 vs) := aM Tryz.func43 rfl (by decide +kernel)
theorem aMs : ∀ vs, aO Tryz.prog 44 vs = some (.enter 44 vs) := aM Tryz.func44 rfl (by decide +kernel)
theorem aJl : ∀ vs, aO Tryz.prog 45 vs = some (.enter 45 vs) := aM Tryz.func45 rfl (by decide +kernel)
theorem aNc : ∀ vs, aO Tryz.prog 46 vs = some (.enter 46 vs) := aM Tryz.func46 rfl (by decide +kernel)
theorem aNe : ∀ vs, aO Tryz.prog 47 vs = some (.enter 47 vs) := aM Tryz.func47 rfl (by decide +kernel)
theorem aM7 : ∀ vs, aO Tryz.prog 48 vs = some (.enter 48 vs) := aM Tryz.func48 rfl (by decide +kernel)
theorem aL8 : ∀ vs, aO Tryz.prog 49 vs = some (.enter 49 vs) := aM Tryz.func49 rfl (by decide +kernel)
theorem vW : ∀ vs, aO Tryz.prog 50 vs = some (.enter 50 vs) := aM Tryz.func50 rfl (by decide +kernel)
theorem qO : ∀ vs, aO Tryz.prog 51 vs = some (.enter 51 vs) := aM Tryz.func51 rfl (by decide +kernel)
theorem aMf : ∀ vs, aO Tryz.prog 52 vs = some (.enter 52 vs) := aM Tryz.func52 rfl (by decide +kernel)
theorem eK : ∀ vs, aO Tryz.prog 53 vs = some (.enter 53 vs) := aM Tryz.func53 rfl (by decide +kernel)
theorem o7 : ∀ vs, aO Tryz.prog 57 vs = some (.enter 57 vs) := aM Tryz.func57 rfl (by decide +kernel)
theorem aM3 : ∀ vs, aO Tryz.prog 58 vs = some (.enter 58 vs) := aM Tryz.func58 rfl (by decide +kernel)
theorem tI : ∀ vs, aO Tryz.prog 59 vs = some (.enter 59 vs) := aM Tryz.func59 rfl (by decide +kernel)
theorem yA : ∀ vs, aO Tryz.prog 60 vs = some (.enter 60 vs) := aM Tryz.func60 rfl (by decide +kernel)
theorem aNj : ∀ vs, aO Tryz.prog 61 vs = some (.enter 61 vs) := aM Tryz.func61 rfl (by decide +kernel)
theorem aKd : ∀ vs, aO Tryz.prog 62 vs = some (.enter 62 vs) := aM Tryz.func62 rfl (by decide +kernel)
theorem aMv : ∀ vs, aO Tryz.prog 63 vs = some (.enter 63 vs) := aM Tryz.func63 rfl (by decide +kernel)
theorem aHu : ∀ vs, aO Tryz.prog 64 vs = some (.enter 64 vs) := aM Tryz.func64 rfl (by decide +kernel)
theorem aMr : ∀ vs, aO Tryz.prog 65 vs = some (.enter 65 vs) := aM Tryz.func65 rfl (by decide +kernel)
theorem aJ6 : ∀ vs, aO Tryz.prog 66 vs = some (.enter 66 vs) := aM Tryz.func66 rfl (by decide +kernel)
theorem aMx : ∀ vs, aO Tryz.prog 67 vs = some (.enter 67 vs) := aM Tryz.func67 rfl (by decide +kernel)
theorem aMp : ∀ vs, aO Tryz.prog 68 vs = some (.enter 68 vs) := aM Tryz.func68 rfl (by decide +kernel)
theorem aNa : ∀ vs, aO Tryz.prog 69 vs = some (.enter 69 vs) := aM Tryz.func69 rfl (by decide +kernel)
theorem aM6 : ∀ vs, aO Tryz.prog 70 vs = some (.enter 70 vs) := aM Tryz.func70 rfl (by decide +kernel)
theorem fB : ∀ vs, aO Tryz.prog 71 vs = some (.enter 71 vs) := aM Tryz.func71 rfl (by decide +kernel)
theorem dX : ∀ vs, aO Tryz.prog 72 vs = some (.enter 72 vs) := aM Tryz.func72 rfl (by decide +kernel)
theorem tA : ∀ vs, aO Tryz.prog 73 vs = some (.enter 73 vs) := aM Tryz.func73 rfl (by decide +kernel)
theorem cD : ∀ vs, aO Tryz.prog 74 vs = some (.enter 74 vs) := aM Tryz.func74 rfl (by decide +kernel)
theorem r9 : ∀ vs, aO Tryz.prog 75 vs = some (.enter 75 vs) := aM Tryz.func75 rfl (by decide +kernel)
theorem aK5 : ∀ vs, aO Tryz.prog 76 vs = some (.enter 76 vs) := aM Tryz.func76 rfl (by decide +kernel)
theorem oR : ∀ vs, aO Tryz.prog 77 vs = some (.enter 77 vs) := aM Tryz.func77 rfl (by decide +kernel)
theorem tD : ∀ vs, aO Tryz.prog 78 vs = some (.enter 78 vs) := aM Tryz.func78 rfl (by decide +kernel)
theorem aJw : ∀ vs, aO Tryz.prog 79 vs = some (.enter 79 vs) := aM Tryz.func79 rfl (by decide +kernel)
theorem aMi : ∀ vs, aO Tryz.prog 80 vs = some (.enter 80 vs) := aM Tryz.func80 rfl (by decide +kernel)
theorem aNb : ∀ vs, aO Tryz.prog 81 vs = some (.enter 81 vs) := aM Tryz.func81 rfl (by decide +kernel)
theorem aMw : ∀ vs, aO Tryz.prog 82 vs = some (.enter 82 vs) := aM Tryz.func82 rfl (by decide +kernel)
theorem aHy : ∀ vs, aO Tryz.prog 83 vs = some (.enter 83 vs) := aM Tryz.func83 rfl (by decide +kernel)
theorem aMo : ∀ vs, aO Tryz.prog 84 vs = some (.enter 84 vs) := aM Tryz.func84 rfl (by decide +kernel)
theorem aHx : ∀ vs, aO Tryz.prog 85 vs = some (.enter 85 vs) := aM Tryz.func85 rfl (by decide +kernel)
theorem aL4 : ∀ vs, aO Tryz.prog 86 vs = some (.enter 86 vs) := aM Tryz.func86 rfl (by decide +kernel)
theorem r6 : ∀ vs, aO Tryz.prog 87 vs = some (.enter 87 vs) := aM Tryz.func87 rfl (by decide +kernel)
theorem aC6 : ∀ vs, aO Tryz.prog 88 vs = some (.enter 88 vs) := aM Tryz.func88 rfl (by decide +kernel)
theorem aMn : ∀ vs, aO Tryz.prog 89 vs = some (.enter 89 vs) := aM Tryz.func89 rfl (by decide +kernel)
theorem aM5 : ∀ vs, aO Tryz.prog 90 vs = some (.enter 90 vs) := aM Tryz.func90 rfl (by decide +kernel)
theorem aNi : ∀ vs, aO Tryz.prog 92 vs = some (.enter 92 vs) := aM Tryz.func92 rfl (by decide +kernel)
theorem aLs : ∀ vs, aO Tryz.prog 93 vs = some (.enter 93 vs) := aM Tryz.func93 rfl (by decide +kernel)
theorem aLu : ∀ vs, aO Tryz.prog 94 vs = some (.enter 94 vs) := aM Tryz.func94 rfl (by decide +kernel)
theorem aMd : ∀ vs, aO Tryz.prog 95 vs = some (.enter 95 vs) := aM Tryz.func95 rfl (by decide +kernel)
theorem aLx : ∀ vs, aO Tryz.prog 96 vs = some (.enter 96 vs) := aM Tryz.func96 rfl (by decide +kernel)
theorem aM1 : ∀ vs, aO Tryz.prog 97 vs = some (.enter 97 vs) := aM Tryz.func97 rfl (by decide +kernel)
theorem aH7 : ∀ vs, aO Tryz.prog 98 vs = some (.enter 98 vs) := aM Tryz.func98 rfl (by decide +kernel)
theorem m5 : ∀ vs, aO Tryz.prog 104 vs = some (.enter 104 vs) := aM Tryz.func104 rfl (by decide +kernel)
theorem aKw : ∀ vs, aO Tryz.prog 105 vs = some (.enter 105 vs) := aM Tryz.func105 rfl (by decide +kernel)
theorem aK4 : ∀ vs, aO Tryz.prog 106 vs = some (.enter 106 vs) := aM Tryz.func106 rfl (by decide +kernel)
theorem aIl : ∀ vs, aO Tryz.prog 107 vs = some (.enter 107 vs) := aM Tryz.func107 rfl (by decide +kernel)
theorem aLp : ∀ vs, aO Tryz.prog 108 vs = some (.enter 108 vs) := aM Tryz.func108 rfl (by decide +kernel)
theorem iW : ∀ vs, aO Tryz.prog 109 vs = some (.enter 109 vs) := aM Tryz.func109 rfl (by decide +kernel)
theorem wV : ∀ vs, aO Tryz.prog 110 vs = some (.enter 110 vs) := aM Tryz.func110 rfl (by decide +kernel)
theorem aIn : ∀ vs, aO Tryz.prog 111 vs = some (.enter 111 vs) := aM Tryz.func111 rfl (by decide +kernel)
theorem y9 : ∀ vs, aO Tryz.prog 112 vs = some (.enter 112 vs) := aM Tryz.func112 rfl (by decide +kernel)
theorem aDx : ∀ vs, aO Tryz.prog 113 vs = some (.enter 113 vs) := aM Tryz.func113 rfl (by decide +kernel)
theorem aIh : ∀ vs, aO Tryz.prog 118 vs = some (.enter 118 vs) := aM Tryz.func118 rfl (by decide +kernel)
theorem gV : ∀ vs, aO Tryz.prog 119 vs = some (.enter 119 vs) := aM Tryz.func119 rfl (by decide +kernel)
theorem aIf : ∀ vs, aO Tryz.prog 120 vs = some (.enter 120 vs) := aM Tryz.func120 rfl (by decide +kernel)
theorem aB1 : ∀ vs, aO Tryz.prog 121 vs = some (.enter 121 vs) := aM Tryz.func121 rfl (by decide +kernel)
theorem aI0 : ∀ vs, aO Tryz.prog 122 vs = some (.enter 122 vs) := aM Tryz.func122 rfl (by decide +kernel)
theorem aKo : ∀ vs, aO Tryz.prog 123 vs = some (.enter 123 vs) := aM Tryz.func123 rfl (by decide +kernel)
theorem aCk : ∀ vs, aO Tryz.prog 124 vs = some (.enter 124 vs) := aM Tryz.func124 rfl (by decide +kernel)
theorem aL1 : ∀ vs, aO Tryz.prog 125 vs = some (.enter 125 vs) := aM Tryz.func125 rfl (by decide +kernel)
theorem aI4 : ∀ vs, aO Tryz.prog 126 vs = some (.enter 126 vs) := aM Tryz.func126 rfl (by decide +kernel)
theorem aIz : ∀ vs, aO Tryz.prog 127 vs = some (.enter 127 vs) := aM Tryz.func127 rfl (by decide +kernel)
theorem aI3 : ∀ vs, aO Tryz.prog 128 vs = some (.enter 128 vs) := aM Tryz.func128 rfl (by decide +kernel)
theorem aK0 : ∀ vs, aO Tryz.prog 129 vs = some (.enter 129 vs) := aM Tryz.func129 rfl (by decide +kernel)
theorem yO : ∀ vs, aO Tryz.prog 133 vs = some (.enter 133 vs) := aM Tryz.func133 rfl (by decide +kernel)
theorem aIx : ∀ vs, aO Tryz.prog 134 vs = some (.enter 134 vs) := aM Tryz.func134 rfl (by decide +kernel)
theorem aLb : ∀ vs, aO Tryz.prog 135 vs = some (.enter 135 vs) := aM Tryz.func135 rfl (by decide +kernel)
theorem aFy : ∀ vs, aO Tryz.prog 136 vs = some (.enter 136 vs) := aM Tryz.func136 rfl (by decide +kernel)
theorem aI5 : ∀ vs, aO Tryz.prog 137 vs = some (.enter 137 vs) := aM Tryz.func137 rfl (by decide +kernel)
theorem aLe : ∀ vs, aO Tryz.prog 138 vs = some (.enter 138 vs) := aM Tryz.func138 rfl (by decide +kernel)
theorem zU : ∀ vs, aO Tryz.prog 139 vs = some (.enter 139 vs) := aM Tryz.func139 rfl (by decide +kernel)
theorem aIw : ∀ vs, aO Tryz.prog 140 vs = some (.enter 140 vs) := aM Tryz.func140 rfl (by decide +kernel)
theorem aFd : ∀ vs, aO Tryz.prog 141 vs = some (.enter 141 vs) := aM Tryz.func141 rfl (by decide +kernel)
theorem z4 : ∀ vs, aO Tryz.prog 143 vs = some (.enter 143 vs) := aM Tryz.func143 rfl (by decide +kernel)
theorem aIi : ∀ vs, aO Tryz.prog 144 vs = some (.enter 144 vs) := aM Tryz.func144 rfl (by decide +kernel)
theorem aLc : ∀ vs, aO Tryz.prog 145 vs = some (.enter 145 vs) := aM Tryz.func145 rfl (by decide +kernel)
theorem aKv : ∀ vs, aO Tryz.prog 146 vs = some (.enter 146 vs) := aM Tryz.func146 rfl (by decide +kernel)
theorem uY : ∀ vs, aO Tryz.prog 147 vs = some (.enter 147 vs) := aM Tryz.func147 rfl (by decide +kernel)
theorem aLv : ∀ vs, aO Tryz.prog 148 vs = some (.enter 148 vs) := aM Tryz.func148 rfl (by decide +kernel)
theorem sR : ∀ vs, aO Tryz.prog 149 vs = some (.enter 149 vs) := aM Tryz.func149 rfl (by decide +kernel)
theorem aK1 : ∀ vs, aO Tryz.prog 150 vs = some (.enter 150 vs) := aM Tryz.func150 rfl (by decide +kernel)
theorem aIc : ∀ vs, aO Tryz.prog 151 vs = some (.enter 151 vs) := aM Tryz.func151 rfl (by decide +kernel)
theorem aLo : ∀ vs, aO Tryz.prog 152 vs = some (.enter 152 vs) := aM Tryz.func152 rfl (by decide +kernel)
theorem aLt : ∀ vs, aO Tryz.prog 153 vs = some (.enter 153 vs) := aM Tryz.func153 rfl (by decide +kernel)
theorem aLr : ∀ vs, aO Tryz.prog 154 vs = some (.enter 154 vs) := aM Tryz.func154 rfl (by decide +kernel)
theorem aKp : ∀ vs, aO Tryz.prog 155 vs = some (.enter 155 vs) := aM Tryz.func155 rfl (by decide +kernel)
theorem aMb : ∀ vs, aO Tryz.prog 156 vs = some (.enter 156 vs) := aM Tryz.func156 rfl (by decide +kernel)
theorem aIq : ∀ vs, aO Tryz.prog 161 vs = some (.enter 161 vs) := aM Tryz.func161 rfl (by decide +kernel)
theorem aLf : ∀ vs, aO Tryz.prog 162 vs = some (.enter 162 vs) := aM Tryz.func162 rfl (by decide +kernel)
theorem aKr : ∀ vs, aO Tryz.prog 163 vs = some (.enter 163 vs) := aM Tryz.func163 rfl (by decide +kernel)
theorem aK7 : ∀ vs, aO Tryz.prog 164 vs = some (.enter 164 vs) := aM Tryz.func164 rfl (by decide +kernel)
theorem aIt : ∀ vs, aO Tryz.prog 170 vs = some (.enter 170 vs) := aM Tryz.func170 rfl (by decide +kernel)
theorem tX : ∀ vs, aO Tryz.prog 171 vs = some (.enter 171 vs) := aM Tryz.func171 rfl (by decide +kernel)
def runN (p : Int → Bool) (src : ByteArray) (at_ : Nat) : Nat := ((src.data.toList.drop at_).takeWhile fun b => p b.toNat).length

theorem p3 {α} (q : α → Bool) : ∀ (l : List α) (n : Nat), (∀ j, j < n → ∃ x, l[j]? = some x ∧ q x = true) → (∀ x, l[n]? = some x → q x = false) → (l.takeWhile q).length = n
 | [], 0, _, _ => rfl
 | [], n + 1, h, _ => by obtain ⟨x, hx, _⟩ := h 0 (by omega); simp at hx
 | a :: l, 0, _, h => by simp [h a (by simp)]
 | a :: l, n + 1, h, h2 => by
  obtain ⟨x, hx, hq⟩ := h 0 (by omega)
  simp at hx; subst hx
  rw [List.takeWhile_cons, if_pos hq, List.length_cons, p3 q l n (fun j hj => by simpa using h (j + 1) (by omega)) (fun x hx => h2 x (by simpa using hx))]

theorem dR {s : ByteArray} {k : Nat} (hk : k < s.size) : ∃ b, s.data.toList[k]? = some b ∧ aT s k = b.toNat := by
 have hk' : k < s.data.toList.length := by simpa using hk
 refine ⟨s.data.toList[k], List.getElem?_eq_getElem hk', ?_⟩
 unfold aT
 rw [List.getD_eq_getElem?_getD, Int.toNat_natCast, List.getElem?_eq_getElem hk']; rfl

theorem qR {p : Int → Bool} {a n : Nat} (hall : ∀ j, j < n → p (aT src ((a + j : Nat) : Int)) = true) (hn : a + n ≤ src.size) (hend : a + n < src.size → p (aT src ((a + n : Nat) : Int)) = false) : runN p src a = n := by
 refine p3 _ _ _ (fun j hj => ?_) fun x hx => ?_
 ·obtain ⟨b, hb, hv⟩ := dR (s := src) (k := a + j) (by omega)
  exact ⟨b, by simpa using hb, by have := hall j hj; rwa [hv] at this⟩
 ·simp only [List.getElem?_drop] at hx
  have hlt : a + n < src.size := by
   rcases Nat.lt_or_ge (a + n) src.size with h | h
   ·exact h
   ·rw [List.getElem?_eq_none (by simpa using h)] at hx; cases hx
  obtain ⟨b, hb, hv⟩ := dR hlt
  rw [hx] at hb; cases hb
  have := hend hlt; rwa [hv] at this

def aBm (f : FuncId) (p : Int → Bool) : Prop := (∀ vs, aO Tryz.prog f vs = some (.enter f vs)) ∧ ∀ (c : Int) (h : aE) (Q : bW → Prop), 0 ≤ c ∧ c ≤ 255 → Q (.ret (.bool (p c)) h) → aP Tryz.prog G X f [.int .u8 c] h Q

theorem aD6 {s : Nat} {a : Nat} {lv : Value} {f : FuncId} {p : Int → Bool} (hf : aBm f p) (hsz : src.size ≤ 100000) (ho : h.obj s = some (.cells false [.string src, .int .i64 a, lv])) (hat : a ≤ src.size)
  (hq : Q (.ret (.int .i64 (runN p src a)) h)) : aP Tryz.prog G X 62 [.pointer (some ⟨s, 0, none⟩), .func (.func f) #[] #[]] h Q := by
 refine Wk Tryz.func62 Tryz.ntmps62 (w:=QN (Mb (w:=QO (Mb (w:=QL (QU (Bk ?_)))))))
 refine WC.bK hX (m := fun n : Nat => src.size - a - n) (Inv := fun n e h' => e 0 = some (.pointer (some ⟨s, 0, none⟩)) ∧ e 1 = some (.func (.func f) #[] #[]) ∧ e 5 = some (.int .i64 n) ∧ h' = h ∧ a + n ≤ src.size ∧ ∀ j, j < n → p (aT src ((a + j : Nat) : Int)) = true) 0 ⟨rfl, rfl, rfl, rfl, by omega, by omega⟩ ?_
 intro n env h' ih ⟨e0, e1, e5, eh, hle, hall⟩
 subst eh
 refine QU (QU (Gd [⟨0, .pure, 0⟩, ⟨1, .pure, 1⟩, ⟨2, .pure, 3⟩, ⟨3, .read, 7⟩, ⟨4, .pure, 0⟩, ⟨5, .pure, 31⟩, ⟨6, .pure, 0⟩, ⟨7, .pure, 64⟩, ⟨8, .pure, 192⟩, ⟨9, .read, 448⟩, ⟨10, .read, 960⟩, ⟨11, .pure, 2047⟩, ⟨12, .pure, 4095⟩, ⟨13, .pure, 8191⟩, ⟨14, .pure, 8191⟩, ⟨15, .pure, 24575⟩, ⟨16, .pure, 57343⟩, ⟨17, .read, 122879⟩, ⟨18, .pure, 8191⟩, ⟨19, .pure, 270335⟩, ⟨20, .pure, 794623⟩, ⟨21, .read, 1843199⟩, ⟨22, .pure, 8191⟩, ⟨23, .pure, 8134655⟩, ⟨24, .pure, 16769023⟩, ⟨25, .aC, 33554431⟩, ⟨26, .pure, 67108863⟩] (w:=Da (w:=Di (w:=Dj (w:=Rt (w:=Da (w:=Df (w:=Da (w:=Di (w:=Dj (w:=Rt (w:=Rr (w:=?_))))))))))))));refine QW (k := QF ?_ ?_);intro hh;refine Da (w:=Da (w:=Da (w:=Di (w:=Dj (w:=Rt (w:=Da (w:=Di (w:=Dj (w:=Rt (w:=Da (w:=Df (w:=Dm (w:=?_)))))))))))));refine WD.aC hX (hw := ?_);rotate_left;intro hh;refine Da (w:=DA (w:=DA (w:=DA (w:=DA (w:=RA (w:=DA (w:=DA (w:=DA (w:=RA (w:=DA (w:=DA (w:=DA (w:=?_)))))))))))));refine WD.aC hX (hw := QA ?_);refine Dd (w:=WD.nil (hq:=QS (WC.exit (aG (QN (Ma (w:=Mb (w:=QM ?_))))))));rotate_left
 ·apply WS.aBv; (· rfl); (· rfl); (· exact aD); (· rfl); (· rfl); (· exact hf.1)
  refine hf.2 _ _ _ (zB _ _) ?_
  refine Dc (w:=WD.nil (hq:=WC.aAa hX (h1 := fun hh => UA (Bk (QV (Ma (w:=Mf (w:=Mb (w:=QL ?_))))))) (h2 := fun hh => WC.exit (aG (QN (Ma (w:=Mb (w:=QM ?_))))))))
  ·refine ih (n + 1) _ _ (by omega) ⟨e0, e1, rfl, rfl, by omega, fun j hj => ?_⟩
   rcases Nat.lt_succ_iff_lt_or_eq.1 hj with hj | rfl
   ·exact hall j hj
   ·exact hh
  ·refine ⟨_, rfl, ?_⟩
   rw [qR hall hle fun _ => hh] at hq
   exact hq
 ·refine ⟨_, rfl, ?_⟩
  rw [qR hall hle fun _ => by omega] at hq
  exact hq

structure Tok where
 kind : Int
 text : ByteArray
 num : Int
 pos : Int
 deriving DecidableEq

def Tok.cells (t : Tok) : List Value := [.int .i64 t.kind, .string t.text, .int .i64 t.num, .int .i64 t.pos]
def cellsOf (l : List Tok) : List Value := l.flatMap Tok.cells

theorem bD (l : List Tok) : (cellsOf l).length = l.length * 4 := by
 induction l with
 | nil => rfl
 | cons a l ih => simp only [cellsOf, List.flatMap_cons, List.length_append, List.length_cons] at ih ⊢; rw [ih]; simp [Tok.cells]; omega

def lB (h : aE) (lo : Nat) (b : Option Addr) (n es : Nat) (l : List Tok) : Prop :=
 (b = none ∧ n = 0 ∧ es = 0 ∧ l = []) ∨ ∃ i, b = some ⟨i, 0, none⟩ ∧ lo ≤ i ∧ i < h.next ∧ es = 4 ∧ n = l.length ∧ h.obj i = some (.cells false (cellsOf l))

theorem lB.len {lo : Nat} {b : Option Addr} {n es : Nat} {l : List Tok} (ht : lB h lo b n es l) : n = l.length := by
 rcases ht with ⟨_, rfl, _, rfl⟩ | ⟨i, _, _, _, _, rfl, _⟩ <;> rfl

theorem lB.at {lo : Nat} {b : Option Addr} {n es : Nat} {l : List Tok} (ht : lB h lo b n es l) : l9 h b n es 4 (cellsOf l) := by
 rcases ht with ⟨rfl, rfl, rfl, rfl⟩ | ⟨i, rfl, _, _, rfl, rfl, ho⟩
 ·exact .inl ⟨rfl, rfl, rfl, rfl⟩
 ·exact .inr ⟨i, 0, _, rfl, rfl, ho, by rw [bD]; omega, by rw [List.drop_zero, List.take_of_length_le (by rw [bD]; omega)]⟩

theorem lB.mono {h h' : aE} {lo : Nat} {b : Option Addr} {n es : Nat} {l : List Tok} (ht : lB h lo b n es l) (hn : h.next ≤ h'.next) (ho : ∀ j, lo ≤ j → j < h.next → h'.obj j = h.obj j) : lB h' lo b n es l := by
 rcases ht with ⟨rfl, rfl, rfl, rfl⟩ | ⟨i, rfl, h1, h2, rfl, rfl, h3⟩
 ·exact .inl ⟨rfl, rfl, rfl, rfl⟩
 ·exact .inr ⟨i, rfl, h1, by omega, rfl, rfl, by rw [ho i h1 h2]; exact h3⟩

def Sc (h : aE) (s : Nat) (src : ByteArray) (k : Nat) (l : List Tok) : Prop :=
 s < h.next ∧ ∃ b n es, h.obj s = some (.cells false [.string src, .int .i64 k, .slice b n es]) ∧ lB h (s + 1) b n es l

def Fr (s : Nat) (h h' : aE) : Prop := h.next ≤ h'.next ∧ ∀ j, j < s → h'.obj j = h.obj j

theorem Fr.refl (s : Nat) (h : aE) : Fr s h h := ⟨Nat.le_refl _, fun _ _ => rfl⟩
theorem Fr.trans {s : Nat} {a b c : aE} (x : Fr s a b) (y : Fr s b c) : Fr s a c := ⟨Nat.le_trans x.1 y.1, fun j hj => (y.2 j hj).trans (x.2 j hj)⟩

theorem p5 {s : Nat} {k : Nat} {l : List Tok} {kind num : Int} {text : ByteArray} {size : Nat} (hs : Sc h s src k l) (hl : l.length ≤ 100000) (hk : k ≤ 100000) (hz : size ≤ 100000)
  (hq : ∀ h', Sc h' s src (k + size) (l ++ [⟨kind, text, num, k⟩]) → Fr s h h' → Q (.ret (.tuple #[]) h')) :
  aP Tryz.prog G X 50 [.pointer (some ⟨s, 0, none⟩), .int .i64 kind, .string text, .int .i64 num, .int .i64 size] h Q := by
 obtain ⟨hlt, b, n, es, ho, ht⟩ := hs
 have hlen := ht.len
 refine Wk Tryz.func50 Tryz.ntmps50 (w:=?_)
 refine QU (Gd [⟨0, .pure, 0⟩, ⟨1, .pure, 0⟩, ⟨2, .pure, 2⟩, ⟨3, .pure, 6⟩, ⟨4, .read, 14⟩, ⟨5, .pure, 0⟩, ⟨6, .pure, 0⟩, ⟨7, .pure, 0⟩, ⟨8, .pure, 0⟩, ⟨9, .pure, 256⟩, ⟨10, .pure, 768⟩, ⟨11, .read, 1792⟩, ⟨12, .pure, 4064⟩, ⟨13, .alloc, 8160⟩, ⟨14, .aC, 16382⟩, ⟨15, .pure, 32767⟩, ⟨16, .pure, 65535⟩, ⟨17, .aC, 131071⟩] (w:=Da (w:=Da (w:=Di (w:=Dj (w:=Rt (w:=Da (w:=Da (w:=Da (w:=Da (w:=Di (w:=Dj (w:=Rt (w:=Dn (w:=?_)))))))))))))));refine WD.alloc (hw := Qz ?_);refine WD.aC hX (hw := ?_)
 ·apply WS.append
  (· rfl); (· rfl); (· exact aD); (· exact aD); (· rfl); (· rfl); (· intro k hk; cases hk); (· exact aX rfl); (· decide); (· exact aA); (· exact fC); (· rfl); (· unfold room; omega); (· rfl)
  (· exact (ht.mono (h' := h.alloc _) (by simp) (fun j _ hj => cR (by omega) rfl)).at)
  intro h1 hn1 ho1 hf1
  have hos : h1.obj s = some (fI.cells false [Value.string src, Value.int IntKind.i64 k, Value.slice b n es]) := by
   rw [hf1 s (by simp; omega) (by rcases ht with ⟨rfl, _⟩ | ⟨i, rfl, h1, _⟩ <;> intro off e <;> cases e; omega)]
   exact cR (by omega) ho
  refine Di (w:=Dj (w:=?_));refine WD.aC hX (hw := Qv ?_);refine WD.nil (hq:=QV (Ma (w:=Mi (w:=Mj (w:=Mt (w:=Ma (w:=Mf (w:=Mi (w:=Mj (w:=Mv (w:=QL ?_)))))))))))
  refine ⟨_, rfl, hq _ ⟨by simp [hn1]; omega, some ⟨h.next + 1, 0, none⟩, n + 1, 4, ?_, .inr ⟨h.next + 1, rfl, by omega, by simp [hn1], rfl, by simp [hlen], ?_⟩⟩ ⟨by simp [hn1]; omega, fun j hj => ?_⟩⟩
  ·rw [Int.natCast_add]; exact fX
  ·refine bF (by omega) (bF (by omega) ?_)
   simp only [aE.bX] at ho1
   rw [ho1]
   simp [cellsOf, Tok.cells]
  ·refine bF (by omega) (bF (by omega) ?_)
   rw [hf1 j (by simp; omega) (by rcases ht with ⟨rfl, _⟩ | ⟨i, rfl, h1, _⟩ <;> intro off e <;> cases e; omega)]
   exact cR (by omega) rfl

def words : List ByteArray := [⟨#[97, 112, 112, 101, 110, 100]⟩, ⟨#[98, 111, 111, 108]⟩, ⟨#[98, 114, 101, 97, 107]⟩, ⟨#[99, 97, 112]⟩, ⟨#[99, 97, 115, 101]⟩, ⟨#[99, 104, 97, 110]⟩, ⟨#[99, 108, 111, 115, 101]⟩, ⟨#[99, 111, 110, 116, 105, 110, 117, 101]⟩, ⟨#[100, 101, 102, 97, 117, 108, 116]⟩, ⟨#[100, 101, 102, 101, 114]⟩, ⟨#[101, 108, 115, 101]⟩, ⟨#[102, 97, 108, 108, 116, 104, 114, 111, 117, 103, 104]⟩, ⟨#[102, 97, 108, 115, 101]⟩, ⟨#[102, 111, 114]⟩, ⟨#[102, 117, 110, 99]⟩, ⟨#[103, 111]⟩, ⟨#[105, 102]⟩, ⟨#[105, 110, 116]⟩, ⟨#[108, 101, 110]⟩, ⟨#[109, 97, 107, 101]⟩, ⟨#[110, 101, 119]⟩, ⟨#[110, 105, 108]⟩, ⟨#[112, 97, 110, 105, 99]⟩, ⟨#[112, 114, 105, 110, 116]⟩, ⟨#[114, 101, 99, 111, 118, 101, 114]⟩, ⟨#[114, 101, 116, 117, 114, 110]⟩, ⟨#[115, 101, 108, 101, 99, 116]⟩, ⟨#[115, 116, 114, 105, 110, 103]⟩, ⟨#[115, 116, 114, 117, 99, 116]⟩, ⟨#[115, 119, 105, 116, 99, 104]⟩, ⟨#[116, 114, 117, 101]⟩, ⟨#[116, 121, 112, 101]⟩, ⟨#[118, 97, 114]⟩]

def dE (l : List ByteArray) (s : ByteArray) : Bool := l.any fun w => decide (s = w)
theorem bL {l : List ByteArray} {s : ByteArray} : dE l s = true ↔ s ∈ l := by
 unfold dE
 rw [List.any_eq_true]
 exact ⟨fun ⟨w, hw, he⟩ => by rw [decide_eq_true_eq] at he; rw [he]; exact hw, fun hm => ⟨s, hm, by simp⟩⟩

theorem cF {p b : Bool} (hb : b = p) (hq : Q (.ret (.bool p) h)) : Q (.ret (.bool b) h) := by rw [hb]; exact hq

theorem aDy {s : ByteArray} (hq : Q (.ret (.bool (dE words s)) h)) : aP Tryz.prog G X 82 [.string s] h Q := by
 refine Wk Tryz.func82 Tryz.ntmps82 (w:=QN (Mb (w:=QL (QU (QN (Ma (w:=QL (Bk (QU (QN (MB (w:=fun hh => Mb (w:=QQ (UA (QR (QN (Mb (w:=QM ?_))))))) (v:=fun hh => Mb (w:=QP (QN (MB (w:=fun hh => Mb (w:=QQ (UA (QR (QN (Mb (w:=QM ?_))))))) (v:=fun hh => Mb (w:=QP (QN (MB (w:=fun hh => Mb (w:=QQ (UA (QR (QN (Mb (w:=QM ?_))))))) (v:=fun hh => Mb (w:=QP (QN (MB (w:=fun hh => Mb (w:=QQ (UA (QR (QN (Mb (w:=QM ?_))))))) (v:=fun hh => Mb (w:=QP (QN (MB (w:=fun hh => Mb (w:=QQ (UA (QR (QN (Mb (w:=QM ?_))))))) (v:=fun hh => Mb (w:=QP (QN (MB (w:=fun hh => Mb (w:=QQ (UA (QR (QN (Mb (w:=QM ?_))))))) (v:=fun hh => Mb (w:=QP (QN (MB (w:=fun hh => Mb (w:=QQ (UA (QR (QN (Mb (w:=QM ?_))))))) (v:=fun hh => Mb (w:=QP (QN (MB (w:=fun hh => Mb (w:=QQ (UA (QR (QN (Mb (w:=QM ?_))))))) (v:=fun hh => Mb (w:=QP (QN (MB (w:=fun hh => Mb (w:=QQ (UA (QR (QN (Mb (w:=QM ?_))))))) (v:=fun hh => Mb (w:=QP (QN (MB (w:=fun hh => Mb (w:=QQ (UA (QR (QN (Mb (w:=QM ?_))))))) (v:=fun hh => Mb (w:=QP (QN (MB (w:=fun hh => Mb (w:=QQ (UA (QR (QN (Mb (w:=QM ?_))))))) (v:=fun hh => Mb (w:=QP (QN (MB (w:=fun hh => Mb (w:=QQ (UA (QR (QN (Mb (w:=QM ?_))))))) (v:=fun hh => Mb (w:=QP (QN (MB (w:=fun hh => Mb (w:=QQ (UA (QR (QN (Mb (w:=QM ?_))))))) (v:=fun hh => Mb (w:=QP (QN (MB (w:=fun hh => Mb (w:=QQ (UA (QR (QN (Mb (w:=QM ?_))))))) (v:=fun hh => Mb (w:=QP (QN (MB (w:=fun hh => Mb (w:=QQ (UA (QR (QN (Mb (w:=QM ?_))))))) (v:=fun hh => Mb (w:=QP (QN (MB (w:=fun hh => Mb (w:=QQ (UA (QR (QN (Mb (w:=QM ?_))))))) (v:=fun hh => Mb (w:=QP (QN (MB (w:=fun hh => Mb (w:=QQ (UA (QR (QN (Mb (w:=QM ?_))))))) (v:=fun hh => Mb (w:=QP (QN (MB (w:=fun hh => Mb (w:=QQ (UA (QR (QN (Mb (w:=QM ?_))))))) (v:=fun hh => Mb (w:=QP (QN (MB (w:=fun hh => Mb (w:=QQ (UA (QR (QN (Mb (w:=QM ?_))))))) (v:=fun hh => Mb (w:=QP (QN (MB (w:=fun hh => Mb (w:=QQ (UA (QR (QN (Mb (w:=QM ?_))))))) (v:=fun hh => Mb (w:=QP (QN (MB (w:=fun hh => Mb (w:=QQ (UA (QR (QN (Mb (w:=QM ?_))))))) (v:=fun hh => Mb (w:=QP (QN (MB (w:=fun hh => Mb (w:=QQ (UA (QR (QN (Mb (w:=QM ?_))))))) (v:=fun hh => Mb (w:=QP (QN (MB (w:=fun hh => Mb (w:=QQ (UA (QR (QN (Mb (w:=QM ?_))))))) (v:=fun hh => Mb (w:=QP (QN (MB (w:=fun hh => Mb (w:=QQ (UA (QR (QN (Mb (w:=QM ?_))))))) (v:=fun hh => Mb (w:=QP (QN (MB (w:=fun hh => Mb (w:=QQ (UA (QR (QN (Mb (w:=QM ?_))))))) (v:=fun hh => Mb (w:=QP (QN (MB (w:=fun hh => Mb (w:=QQ (UA (QR (QN (Mb (w:=QM ?_))))))) (v:=fun hh => Mb (w:=QP (QN (MB (w:=fun hh => Mb (w:=QQ (UA (QR (QN (Mb (w:=QM ?_))))))) (v:=fun hh => Mb (w:=QP (QN (MB (w:=fun hh => Mb (w:=QQ (UA (QR (QN (Mb (w:=QM ?_))))))) (v:=fun hh => Mb (w:=QP (QN (MB (w:=fun hh => Mb (w:=QQ (UA (QR (QN (Mb (w:=QM ?_))))))) (v:=fun hh => Mb (w:=QP (QN (MB (w:=fun hh => Mb (w:=QQ (UA (QR (QN (Mb (w:=QM ?_))))))) (v:=fun hh => Mb (w:=QP (QN (MB (w:=fun hh => Mb (w:=QQ (UA (QR (QN (Mb (w:=QM ?_))))))) (v:=fun hh => Mb (w:=QP (QN (MB (w:=fun hh => Mb (w:=QQ (UA (QR (QN (Mb (w:=QM ?_))))))) (v:=fun hh => Mb (w:=QP (QV (MB (w:=fun hh => Mb (w:=QQ (QN (Mb (w:=QM ?_))))) (v:=fun hh => Mb (w:=QP (UA (QN (Mb (w:=QM ?_)))))))))))))))))))))))))))))))))))))))))))))))))))))))))))))))))))))))))))))))))))))))))))))))))))))))))))))))))))))))))))))))))))))))))))))))))
 all_goals (refine ⟨_, rfl, cF ?_ hq⟩; symm; first
  | (subst hh; decide +kernel)
  | (rw [← Bool.not_eq_true, bL]; intro hm; simp only [words, List.mem_cons, List.not_mem_nil, or_false] at hm; repeat (first | contradiction | (rcases hm with hm | hm))))

theorem aHh {j n : Nat} {l : List ByteArray} {s : ByteArray} (ho : h.obj j = some (.cells false (l.map Value.string))) (hn : n = l.length) (hl : l.length ≤ 100000)
  (hq : ∀ r : Int, (0 ≤ r ↔ s ∈ l) → Q (.ret (.int .i64 r) h)) : aP Tryz.prog G X 92 [.slice (some ⟨j, 0, none⟩) n 1, .string s] h Q := by
 refine Wk Tryz.func92 Tryz.ntmps92 (w:=QN (Mb (w:=QL (QU (QN (Ma (w:=Ms (w:=Ma (w:=QL (Bk ?_))))))))))
 refine WC.bK hX (m := fun i : Nat => l.length - i) (Inv := fun i e h' => e 0 = some (.slice (some ⟨j, 0, none⟩) n 1) ∧ e 1 = some (.string s) ∧ e 7 = some (.int .i64 n) ∧ e 8 = some (.int .i64 i) ∧ h' = h ∧ i ≤ l.length ∧ ∀ k, k < i → l[k]? ≠ some s) 0 ⟨rfl, rfl, rfl, rfl, rfl, by omega, by omega⟩ ?_
 intro i env h' ih ⟨e0, e1, e7, e8, eh, hle, hall⟩
 subst eh
 refine QN (MF (w:=fun hh => QL (QU (QR (UA (QU (Bk (QN (Ma (w:=Mb (w:=QO (Ma (w:=Ma (w:=Ma (w:=Ml (w:=QK ?_))))))))))))))) (v:=fun hh => QL (QU (QS (WC.exit (aG (QN (Mb (w:=QM ?_)))))))))
 ·have hi : i < l.length := by omega
  refine WS.jQ (v := .string l[i]) (hc := ?_) (hk := ?_)
  ·simp [hi]
  refine MB (w:=fun hh => QQ (QN (Ma (w:=Mb (w:=QM ?_))))) (v:=fun hh => QP (UA (QV (Mf (w:=Ma (w:=QL ?_))))))
  ·refine ⟨_, rfl, hq _ ⟨fun _ => ?_, fun _ => by omega⟩⟩
   rw [hh]; exact List.getElem_mem hi
  ·refine ih (i + 1) _ _ (by omega) ⟨e0, e1, e7, rfl, rfl, hi, fun k hk => ?_⟩
   rcases Nat.lt_succ_iff_lt_or_eq.1 hk with hk | rfl
   ·exact hall k hk
   ·rw [List.getElem?_eq_getElem hi]; intro e; cases e; exact hh rfl
 ·refine ⟨_, rfl, hq _ ⟨fun hc => by omega, fun hm => ?_⟩⟩
  obtain ⟨k, hk, he⟩ := List.getElem_of_mem hm
  exact (hall k (by omega) (by rw [List.getElem?_eq_getElem hk, he])).elim

theorem nM {j n : Nat} {l : List ByteArray} {s : ByteArray} (ho : h.obj j = some (.cells false (l.map Value.string))) (hn : n = l.length) (hl : l.length ≤ 100000)
  (hq : Q (.ret (.bool (dE l s)) h)) : aP Tryz.prog G X 85 [.slice (some ⟨j, 0, none⟩) n 1, .string s] h Q := by
 refine Wk Tryz.func85 Tryz.ntmps85 (w:=QN (Mb (w:=QO (Ma (w:=Ma (w:=QK ?_))))))
 ·refine QJ aNi ?_
  refine aHh ho hn hl fun r hr => ?_
  refine MI (w:=fun hh => Mb (w:=QM ?_)) (v:=fun hh => Mb (w:=QM ?_))
  ·refine ⟨_, rfl, cF ?_ hq⟩
   rw [(bL).2 (hr.1 hh)]
  ·refine ⟨_, rfl, cF ?_ hq⟩
   symm; rw [← Bool.not_eq_true, bL, ← hr]; exact hh

def m8 : List ByteArray := [⟨#[98, 114, 101, 97, 107]⟩, ⟨#[99, 111, 110, 116, 105, 110, 117, 101]⟩, ⟨#[102, 97, 108, 108, 116, 104, 114, 111, 117, 103, 104]⟩, ⟨#[114, 101, 116, 117, 114, 110]⟩, ⟨#[116, 114, 117, 101]⟩, ⟨#[102, 97, 108, 115, 101]⟩, ⟨#[110, 105, 108]⟩, ⟨#[105, 110, 116]⟩, ⟨#[98, 111, 111, 108]⟩, ⟨#[115, 116, 114, 105, 110, 103]⟩]
def mV : List ByteArray := [⟨#[43, 43]⟩, ⟨#[45, 45]⟩, ⟨#[41]⟩, ⟨#[93]⟩, ⟨#[125]⟩]

def eZ (t : Tok) : Bool := if t.kind = 1 ∨ t.kind = 2 ∨ t.kind = 3 then true else if t.kind = 4 then dE m8 t.text else if t.kind = 5 then dE mV t.text else false
def kS (l : List Tok) : Bool := match l.getLast? with
 | none => false
 | some t => eZ t

theorem o8 {h h' : aE} {s : Nat} (hs : s ≤ h.next) (g : Gr h h') : Fr s h h' := ⟨g.1, fun j hj => g.2 j (by omega)⟩
theorem Sc.grow {h h' : aE} {s : Nat} {k : Nat} {l : List Tok} (hs : Sc h s src k l) (g : Gr h h') : Sc h' s src k l := by
 obtain ⟨hlt, b, n, es, ho, ht⟩ := hs
 exact ⟨Nat.lt_of_lt_of_le hlt g.1, b, n, es, (g.2 s hlt).trans ho, ht.mono g.1 fun j _ hj => g.2 j hj⟩

theorem fR {l : List Tok} {i : Nat} {t : Tok} (h : l[i]? = some t) : ((cellsOf l).drop (i * 4)).take 4 = t.cells := by
 induction l generalizing i with
 | nil => simp at h
 | cons a l ih =>
  cases i with
  | zero => simp at h; subst h; simp [cellsOf, Tok.cells]
  | succ i =>
   simp at h
   rw [← ih h]
   simp only [cellsOf, List.flatMap_cons]
   rw [List.drop_append]
   have : a.cells.length = 4 := rfl
   rw [List.drop_of_length_le (by rw [this]; omega), List.nil_append]
   rw [this, show (i + 1) * 4 - 4 = i * 4 by omega]

theorem aJq {s : Nat} {k : Nat} {l : List Tok} (hs : Sc h s src k l) (hl : l.length ≤ 100000)
  (hq : ∀ h', Gr h h' → Q (.ret (.bool (kS l)) h')) : aP Tryz.prog G X 70 [.pointer (some ⟨s, 0, none⟩)] h Q := by
 obtain ⟨hlt, b, n, es, ho, ht⟩ := hs
 have hlen := ht.len
 refine Wk Tryz.func70 Tryz.ntmps70 (w:=?_)
 refine QN (Mb (w:=QL (QU (QN (Ma (w:=Mi (w:=Mj (w:=Mt (w:=Ms (w:=MD (w:=fun hh => QQ (QN (Mb (w:=QM ?_)))) (v:=fun hh => QP (UA (QU (QU (Gd [⟨0, .pure, 0⟩, ⟨1, .pure, 1⟩, ⟨2, .pure, 3⟩, ⟨3, .read, 7⟩, ⟨4, .pure, 0⟩, ⟨5, .pure, 16⟩, ⟨6, .pure, 48⟩, ⟨7, .read, 112⟩, ⟨8, .read, 240⟩, ⟨9, .pure, 496⟩, ⟨10, .pure, 1023⟩, ⟨11, .read, 2047⟩, ⟨12, .alloc, 0⟩, ⟨13, .aC, 8191⟩] (w:=Da (w:=Di (w:=Dj (w:=Rt (w:=Da (w:=Di (w:=Dj (w:=Rt (w:=Rs (w:=?_)))))))))))))))))))))))));rotate_left;refine QW (k := Qg ?_);refine WD.pure (hw := ?_);rotate_left
 ·have : l = [] := List.eq_nil_of_length_eq_zero (by omega)
  subst this
  exact ⟨_, rfl, hq _ (Gr.refl _)⟩
 ·rcases ht with ⟨_, rfl, _, _⟩ | ⟨i, rfl, h1, h2, rfl, _, h3⟩
  ·omega
  have hne : l ≠ [] := by intro e; subst e; simp at hlen; omega
  obtain ⟨t, hlast⟩ : ∃ t, l.getLast? = some t := ⟨l.getLast hne, List.getLast?_eq_some_getLast hne⟩
  have hget : l[n - 1]? = some t := by rw [hlen, ← List.getLast?_eq_getElem?]; exact hlast
  have hq' : ∀ h', Gr h h' → Q (.ret (.bool (eZ t)) h') := by
   intro h' g; have := hq h' g; unfold kS at this; rw [hlast] at this; exact this
  refine WS.indexAddr (hk := ?_);refine WD.read (hw := ?_)
  refine WS.lA (vs := t.cells) (hc := ?_) (hv' := ?_) (hk := ?_)
  (· rw [bD]; omega); (· rw [show 0 + ((n : Int) - 1).toNat * 4 = (n - 1) * 4 by omega, fR hget]; rfl)
  refine WD.alloc (hw := Qw ?_);refine WD.aC hX (hw := Qv ?_);refine WD.nil (hq:=QN (Mj (w:=Mt (w:=QL (Bk (QU (QN (MD (w:=fun hh => Mb (w:=QQ (UA (QR (QN (Mb (w:=QM ?_))))))) (v:=fun hh => Mb (w:=QP (QN (MD (w:=fun hh => Mb (w:=QQ (UA (QR (QN (Mb (w:=QM ?_))))))) (v:=fun hh => Mb (w:=QP (QV (MD (w:=fun hh => Mb (w:=QQ (QN (Mb (w:=QM ?_))))) (v:=fun hh => Mb (w:=QP (QN (MD (w:=fun hh => Mb (w:=QQ (QN (My (w:=Mj (w:=Mt (w:=QK ?_))))))) (v:=fun hh => Mb (w:=QP (QN (MD (w:=fun hh => Mb (w:=QQ (QN (My (w:=Mj (w:=Mt (w:=QK ?_))))))) (v:=fun hh => Mb (w:=QP (UA (QN (Mb (w:=QM ?_))))))))))))))))))))))))))))))
  ·refine ⟨_, rfl, cF ?_ (hq' _ cC)⟩
   simp [eZ, hh]
  ·refine ⟨_, rfl, cF ?_ (hq' _ cC)⟩
   simp [eZ, hh]
  ·refine ⟨_, rfl, cF ?_ (hq' _ cC)⟩
   simp [eZ, hh]
  ·skip
   refine QJ aHx ?_
   refine nM (l := m8) eQ rfl (by decide) ?_
   refine Mb (w:=QM ?_)
   refine ⟨_, rfl, cF ?_ (hq' _ cC)⟩
   simp [eZ, hh]
  ·skip
   refine QJ aHx ?_
   refine nM (l := mV) eQ rfl (by decide) ?_
   refine Mb (w:=QM ?_)
   refine ⟨_, rfl, cF ?_ (hq' _ cC)⟩
   simp [eZ, hh]
  ·refine ⟨_, rfl, cF ?_ (hq' _ cC)⟩
   simp [eZ, *]

def eJ (k : Nat) (l : List Tok) : List Tok := if kS l then l ++ [⟨5, ⟨#[59]⟩, 1, k⟩] else l

theorem aD3 {s : Nat} {k : Nat} {l : List Tok} (hs : Sc h s src k l) (hl : l.length ≤ 100000) (hk : k ≤ 100000)
  (hq : ∀ h', Sc h' s src k (eJ k l) → Fr s h h' → Q (.ret (.tuple #[]) h')) : aP Tryz.prog G X 49 [.pointer (some ⟨s, 0, none⟩)] h Q := by
 refine Wk Tryz.func49 Tryz.ntmps49 (w:=QN (Ma (w:=MJ aM6 (w:=aJq hs hl fun h1 g => ?_))))
 have fr1 : Fr s h h1 := o8 (by have := hs.1; omega) g
 refine QL (WC.aAa hX (h1 := fun hh => QV (Ma (w:=QK ?_))) (h2 := fun hh => UA ?_))
 ·refine QJ vW ?_
  refine p5 (size := 0) (hs.grow g) hl hk (by omega) fun h2 hs2 fr2 => ?_
  refine QL ?_
  refine ⟨_, rfl, hq _ ?_ (fr1.trans fr2)⟩
  unfold eJ
  rw [if_pos hh]
  exact hs2
 ·refine ⟨_, rfl, hq _ ?_ fr1⟩
  unfold eJ
  rw [hh]
  exact hs.grow g

end Go.Proofs.ZL
end
