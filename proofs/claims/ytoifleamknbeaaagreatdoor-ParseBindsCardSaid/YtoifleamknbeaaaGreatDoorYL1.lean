/- The lexer, first part. -/
import Derived.Test.YtoifleamknbeaaaGreatDoorZA4
import Derived.Test.YtoifleamknbeaaaGreatDoorChecked
section
open Go Go.Am
namespace Go.Proofs.ZL
def szs : List Nat := [1, 1, 1, 1, 1, 1, 1, 4, 4, 1, 1, 1, 1, 2, 2, 1, 1, 1, 1, 1, 1, 1, 1, 1, 7, 7, 2, 2, 1, 1, 1, 1, 1, 1, 1, 4, 4, 1, 1, 1, 1, 1, 1, 1, 1, 1, 1, 1, 1, 1, 2, 2, 1, 1, 1, 5, 5, 1, 1, 1, 1, 1, 1, 1, 3, 3, 1, 1, 1, 1, 1, 1, 1, 1, 1, 1, 4, 4, 1, 1, 3, 3, 1, 1, 1, 1, 1, 1, 1, 1, 1, 1, 1, 1, 1, 1, 1, 1, 1, 1, 1, 1, 1, 1, 1, 1, 1, 1, 1, 1, 1, 1, 1, 1, 2, 2, 1, 1, 1, 1, 2, 1, 1, 1, 1, 1, 1, 1, 1, 1, 1, 1, 1, 1, 1, 1, 1, 1, 1, 1, 3, 3, 1, 1, 1, 1, 1, 1, 1, 1, 1, 1, 1, 1, 1, 1, 1, 1, 1, 1, 24, 1, 1, 1, 1, 1, 1, 20, 1, 65, 1, 1, 1, 32, 64, 4, 4, 0, 0, 0, 1, 1, 1, 1, 1, 1, 11, 11, 1, 1, 2, 2, 1, 1, 1, 5, 5, 1, 1, 4, 4, 1]
def offs : List (List (Option Nat)) := [[], [], [], [], [], [], [], [some 0, some 1, some 2, some 3], [some 0, some 1, some 2, some 3], [], [], [], [], [some 0, some 1], [some 0, some 1], [], [], [], [some 0], [some 0], [], [], [], [], [some 0, some 1, some 2, some 3, some 4, some 5, some 6], [some 0, some 1, some 2, some 3, some 4, some 5, some 6], [some 0, some 1], [some 0, some 1], [], [], [], [], [], [], [], [some 0, some 1, some 2, some 3], [some 0, some 1, some 2, some 3], [], [], [], [], [], [], [], [], [], [], [], [], [], [some 0, some 1], [some 0, some 1], [], [], [], [some 0, some 1, some 2, some 3, some 4], [some 0, some 1, some 2, some 3, some 4], [], [], [], [], [], [], [], [some 0, some 1, some 2], [some 0, some 1, some 2], [], [some 0], [some 0], [], [], [], [], [some 0], [some 0], [], [some 0, some 1, some 2, some 3], [some 0, some 1, some 2, some 3], [], [], [some 0, some 1, some 2], [some 0, some 1, some 2], [], [], [], [], [], [], [], [], [], [], [], [], [], [], [], [some 0], [some 0], [], [], [], [], [], [], [], [], [], [], [], [], [], [], [], [some 0, some 1], [some 0, some 1], [], [], [], [], [], [], [], [], [], [], [], [], [], [], [], [], [], [], [], [], [], [], [], [], [some 0, some 1, some 2], [some 0, some 1, some 2], [], [], [], [], [], [], [], [], [], [some 0], [some 0], [], [], [], [], [], [], [], [], [], [], [], [], [], [], [], [], [], [], [], [], [], [], [some 0, some 1, some 2, some 3], [some 0, some 1, some 2, some 3], [], [none], [none], [], [], [], [], [], [], [some 0, some 1, some 2, some 3, some 4, some 5, some 6, some 7, some 8, some 9, some 10], [some 0, some 1, some 2, some 3, some 4, some 5, some 6, some 7, some 8, some 9, some 10], [], [], [some 0, some 1], [some 0, some 1], [], [], [], [some 0, some 1, some 2, some 3, some 4], [some 0, some 1, some 2, some 3, some 4], [], [], [some 0, some 1, some 2, some 3], [some 0, some 1, some 2, some 3], []]
def fits : List (Option (Nat × Nat)) := [none, some (1, 8), some (1, 8), some (1, 8), some (1, 1), some (1, 1), some (1, 1), some (4, 24), some (4, 24), some (1, 16), some (1, 16), some (1, 16), some (1, 8), some (2, 24), some (2, 24), some (1, 8), some (1, 8), some (1, 8), some (1, 8), some (1, 8), some (1, 16), some (1, 4), some (1, 8), some (1, 24), some (7, 88), some (7, 88), some (2, 16), some (2, 16), none, some (1, 8), some (1, 8), some (1, 8), some (1, 24), none, some (1, 8), some (4, 40), some (4, 40), some (1, 8), some (1, 8), some (1, 8), some (1, 24), some (1, 24), some (1, 24), some (1, 8), some (1, 8), some (1, 24), some (1, 16), some (1, 16), none, some (1, 8), some (2, 24), some (2, 24), some (1, 8), some (1, 8), some (1, 8), some (5, 48), some (5, 48), some (1, 8), some (1, 8), some (1, 8), some (1, 8), none, some (1, 8), some (1, 8), some (3, 48), some (3, 48), some (1, 8), some (1, 8), some (1, 8), some (1, 8), none, some (1, 8), none, some (1, 16), some (1, 16), some (1, 8), some (4, 40), some (4, 40), some (1, 8), some (1, 8), some (3, 24), some (3, 24), some (1, 8), some (1, 16), some (1, 16), some (1, 8), some (1, 1), some (1, 8), some (1, 8), some (1, 8), some (1, 8), some (1, 8), some (1, 8), some (1, 8), some (1, 8), some (1, 8), some (1, 8), some (1, 8), some (1, 8), some (1, 8), some (1, 8), some (1, 8), some (1, 8), some (1, 16), none, some (1, 8), some (1, 16), some (1, 16), some (1, 24), some (1, 8), some (1, 8), some (1, 8), some (1, 8), some (1, 8), some (2, 32), some (2, 32), none, some (1, 8), none, some (1, 8), some (2, 16), some (1, 8), some (1, 8), some (1, 16), some (1, 8), some (1, 8), some (1, 8), some (1, 8), none, some (1, 8), some (1, 8), some (1, 8), some (1, 8), some (1, 8), some (1, 8), some (1, 8), some (1, 8), none, some (1, 8), some (1, 8), some (3, 48), some (3, 48), some (1, 8), some (1, 8), some (1, 8), some (1, 8), some (1, 8), some (1, 8), some (1, 8), some (1, 8), some (1, 8), some (1, 16), some (1, 16), some (1, 8), none, some (1, 8), some (1, 8), some (1, 8), some (1, 8), some (1, 8), some (24, 24), some (1, 8), some (1, 8), none, some (1, 8), some (1, 8), some (1, 8), some (20, 160), some (1, 4), some (65, 65), some (1, 8), some (1, 8), some (1, 8), some (32, 32), some (64, 64), some (4, 40), some (4, 40), none, none, none, some (1, 8), some (1, 8), some (1, 1), some (1, 8), some (1, 4), some (1, 4), some (11, 48), some (11, 48), some (1, 8), some (1, 8), some (2, 24), some (2, 24), some (1, 8), some (1, 8), some (1, 2), some (5, 16), some (5, 16), some (1, 24), some (1, 4), some (4, 16), some (4, 16), some (1, 8)]

theorem tab_at {α β : Type} {f : Nat → α} {g : β → α} {l : List β} (hl : (List.range l.length).map f = l.map g) {t : Nat} {m : β} (h : l[t]? = some m) : f t = g m := by
 have ht : t < l.length := by
  rcases Nat.lt_or_ge t l.length with h' | h'
  ·exact h'
  ·rw [List.getElem?_eq_none h'] at h; cases h
 have h1 : ((List.range l.length).map f)[t]? = some (f t) := by
  rw [List.getElem?_map, List.getElem?_range ht]; rfl
 rw [hl, List.getElem?_map, h] at h1
 exact (Option.some.inj h1).symm

theorem sz_all : (List.range szs.length).map (sizeT Tryz.prog) = szs.map some := by decide +kernel
theorem offs_all : (List.range offs.length).map (fieldOffs Tryz.prog) = offs.map id := by decide +kernel
theorem fits_all : (List.range fits.length).map (elemFits Tryz.prog) = fits.map id := by decide +kernel

theorem sz_at {t m : Nat} (h : szs[t]? = some m) : sizeT Tryz.prog t = some m := tab_at sz_all h
theorem offs_at {t f o : Nat} {l : List (Option Nat)} (h : offs[t]? = some l) (h2 : l[f]? = some (some o)) : (fieldOffs Tryz.prog t)[f]? = some (some o) := by
 rw [tab_at offs_all h]; exact h2
theorem fits_at {t m b : Nat} (h : fits[t]? = some (some (m, b))) : elemFits Tryz.prog t = some (m, b) := tab_at fits_all h
end Go.Proofs.ZL
end

section
open Go Go.Am
namespace Go.Proofs.ZL
set_option maxRecDepth 100000
set_option linter.unusedSimpArgs false
set_option linter.unusedVariables false
set_option maxHeartbeats 4000000

def errPos : Value → Option Int
 | .iface t (.agg cs) =>
  if t = 68 then match cs.toList with
   | [.int .i64 p] => some p
   | _ => none
  else if t = 115 then match cs.toList with
   | [.string _, .iface u (.agg ds)] => if u = 68 then match ds.toList with
     | [.int .i64 p] => some p
     | _ => none
    else none
   | _ => none
  else none
 | _ => none

def wrongA (p : Int) (w : ByteArray) : Value := .agg #[.int .i64 p, .iface 123 (.string w)]
def wrongPos : Value → Option (Int × ByteArray)
 | .iface t (.agg cs) =>
  if t = 74 then match cs.toList with
   | [.iface u (.agg ds)] => if u = 51 then match ds.toList with
     | [.int .i64 p, .iface q (.string w)] => if q = 123 then some (p, w) else none
     | _ => none
    else none
   | _ => none
  else none
 | _ => none

noncomputable def asO : CallFn → List Value → Heap → Option ARes := fun _ args h =>
 match args with
 | [e, .iface t (.pointer (some ⟨i, 0, none⟩))] =>
  if t = 69 then match errPos e with
   | some p => (storeA Tryz.prog 68 i 0 (.agg #[.int .i64 p]) h).map fun h' => .ret (.bool true) h'
   | none => none
  else if t = 53 then match e with
   | .nilIface => some (.ret (.bool false) h)
   | e => match wrongPos e with
    | some (p, w) => (storeA Tryz.prog 51 i 0 (wrongA p w) h).map fun h' => .ret (.bool true) h'
    | none => none
  else none
 | _ => none

def wrongCh : List PanicEntry → Option (Int × ByteArray)
 | [⟨.iface u (.agg ds), false, false⟩] => if u = 51 then match ds.toList with
   | [.int .i64 p, .iface q (.string w)] => if q = 123 then some (p, w) else none
   | _ => none
  else none
 | _ => none

def seqL : Code → Code
 | .seq a _ => a
 | c => c
def seqR : Code → Code
 | .seq _ b => b
 | c => c
def regOps : Code → Array Oper
 | .region _ ops _ => ops
 | _ => #[]
def toRegs : Code → List (Nat × Array Oper)
 | .seq (.region id ops _) c => (id, ops) :: toRegs c
 | _ => []
def condL : Code → Code
 | .cond _ a _ => a
 | c => c
noncomputable def catchOps : Array Oper := regOps (condL (seqR (seqR ((Tryz.f30).body.getD .skip))))
def catchEnv (v1 v2 : Value) (i : Nat) : Env := fun t => if t = 0 then some v1 else if t = 1 then some v2 else if t = 2 then some (.pointer (some ⟨i, 0, none⟩)) else none
noncomputable def catchP : CatchFn := fun C v1 v2 ch h => match wrongCh ch with
 | some (p, w) => match regA Tryz.prog 0 C (Tryz.f30).ntmps catchOps true (catchEnv v1 v2 h.next) (h.alloc (.cells false [.int .i64 p, .iface 123 (.string w)])) with
  | some (.ok _ h2) => some h2
  | _ => none
 | none => none
theorem catchP_le : ∀ C C', CallFn.le C C' → ∀ v1 v2 ch h h4, catchP C v1 v2 ch h = some h4 → catchP C' v1 v2 ch h = some h4 := by
 intro C C' hl v1 v2 ch h h4 hc
 unfold catchP at hc ⊢
 split at hc
 ·rename_i p w hp
  split at hc
  ·rename_i e h2 hr
   rw [regA_le hl _ _ _ _ _ _ hr]; exact hc
  ·cases hc
 ·cases hc
noncomputable def parsedBody : Code := (Tryz.f20).body.getD .skip
noncomputable def parsedO : CallFn → List Value → Heap → Option ARes :=
 deferO Tryz.prog 0 (Tryz.f20).ntmps (Tryz.f20).results.toList (regOps (seqL parsedBody)) 2 3 5 30 (toRegs (seqR (seqR parsedBody))) catchP

noncomputable def X : ExtFn := fun f => if f = 21 then some asO else if f = 20 then some parsedO else none
theorem hX : ExtMono X := ⟨fun f o h => by
 unfold X at h
 split at h
 ·cases h
  intro C C' _ args hp r hr
  exact hr
 ·split at h
  ·cases h
   intro C C' hl args hp r hr
   exact deferO_le hl (catchP_le _ _ hl) hr
  ·cases h⟩
abbrev G : Nat := 0

def letterN (c : Int) : Bool := decide (97 ≤ c ∧ c ≤ 122 ∨ 65 ≤ c ∧ c ≤ 90 ∨ c = 95)
def digitN (c : Int) : Bool := decide (48 ≤ c ∧ c ≤ 57)

theorem bool_T {p : Prop} [Decidable p] (hp : p) : Value.bool true = .bool (decide p) := by rw [decide_eq_true hp]
theorem bool_F {p : Prop} [Decidable p] (hp : ¬p) : Value.bool false = .bool (decide p) := by rw [decide_eq_false hp]

theorem letter_w {c : Int} {h : Heap} {Q : ARes → Prop} (hq : Q (.ret (.bool (letterN c)) h)) : WCall Tryz.prog G X 64 [.int .u8 c] h Q := by
 refine WCall.walk hX Tryz.func64 rfl rfl Tryz.ntmps64 rfl ?_
 refine QN hX ?_;refine QK (Qb ?_);refine QO hX ?_;refine QK (Qa ?_);refine QK (QI ?_ ?_);intro hh;refine QK (Qa ?_);refine QK (Qa ?_);refine QK (QG ?_ ?_);intro hh;refine QK (Qc ?_);refine QK (Qa ?_);refine QK (QA ?_);refine QK (QA ?_);refine QK (QA ?_);refine QK (QA ?_);refine QK (QA ?_);refine QK (QA ?_);refine QK (Qc ?_);refine QK (Qa ?_);refine QK (QA ?_);refine QK (QA ?_);refine QK (Qc ?_);refine QK (Qb ?_);refine QM ?_;rotate_left;intro hh;refine QK (Qc ?_);refine QK (Qa ?_);refine QK (Qa ?_);refine QK (QI ?_ ?_);intro hh;refine QK (Qa ?_);refine QK (Qa ?_);refine QK (QG ?_ ?_);intro hh;exfalso;omega;intro hh;refine QK (Qc ?_);refine QK (Qd ?_);refine QK (Qa ?_);refine QK (Qa ?_);refine QK (QD ?_ ?_);intro hh;exfalso;omega;intro hh;refine QK (Qd ?_);refine QK (Qb ?_);refine QM ?_;rotate_left;intro hh;exfalso;omega;intro hh;refine QK (Qa ?_);refine QK (QA ?_);refine QK (QA ?_);refine QK (Qd ?_);refine QK (Qa ?_);refine QK (Qa ?_);refine QK (QI ?_ ?_);intro hh;refine QK (Qa ?_);refine QK (Qa ?_);refine QK (QG ?_ ?_);intro hh;refine QK (Qc ?_);refine QK (Qd ?_);refine QK (Qa ?_);refine QK (QA ?_);refine QK (QA ?_);refine QK (Qc ?_);refine QK (Qb ?_);refine QM ?_;rotate_left;intro hh;refine QK (Qc ?_);refine QK (Qd ?_);refine QK (Qa ?_);refine QK (Qa ?_);refine QK (QD ?_ ?_);intro hh;refine QK (Qd ?_);refine QK (Qb ?_);refine QM ?_;rotate_left;intro hh;refine QK (Qd ?_);refine QK (Qb ?_);refine QM ?_;rotate_left;intro hh;refine QK (Qa ?_);refine QK (QA ?_);refine QK (QA ?_);refine QK (Qd ?_);refine QK (Qd ?_);refine QK (Qa ?_);refine QK (Qa ?_);refine QK (QD ?_ ?_);intro hh;exfalso;omega;intro hh;refine QK (Qd ?_);refine QK (Qb ?_);refine QM ?_;rotate_left
 all_goals (refine ⟨_, rfl, ?_⟩; refine (congrArg (fun v => Q (.ret v h)) (?_ : answer _ = _)).mpr hq; unfold letterN; first | exact bool_T (by omega) | exact bool_F (by omega))

theorem digit_w {c : Int} {h : Heap} {Q : ARes → Prop} (hq : Q (.ret (.bool (digitN c)) h)) : WCall Tryz.prog G X 66 [.int .u8 c] h Q := by
 refine WCall.walk hX Tryz.func66 rfl rfl Tryz.ntmps66 rfl ?_
 refine QN hX ?_;refine QK (Qb ?_);refine QO hX ?_;refine QK (Qa ?_);refine QK (QI ?_ ?_);intro hh;refine QK (Qa ?_);refine QK (Qa ?_);refine QK (QG ?_ ?_);intro hh;refine QK (Qc ?_);refine QK (Qb ?_);refine QM ?_;rotate_left;intro hh;refine QK (Qc ?_);refine QK (Qb ?_);refine QM ?_;rotate_left;intro hh;refine QK (Qa ?_);refine QK (QA ?_);refine QK (QA ?_);refine QK (Qd ?_);refine QK (Qb ?_);refine QM ?_;rotate_left
 all_goals (refine ⟨_, rfl, ?_⟩; refine (congrArg (fun v => Q (.ret v h)) (?_ : answer _ = _)).mpr hq; unfold digitN; first | exact bool_T (by omega) | exact bool_F (by omega))

end Go.Proofs.ZL
end

section
open Go Go.Am
namespace Go.Proofs.ZL
theorem enter_of {P : Program} {f : FuncId} {fn : Func} (hf : P.funcs[f]? = some fn) (hb : fn.body.isSome = true) (hn : (fn.name == "runtime.NumGoroutine") = false) (vs : List Value) : enterA P f vs = some (.enter f vs) := by
 simp only [enterA, hf, hb, hn, Bool.not_false, Bool.and_self, if_true]
theorem en2 : ∀ vs, enterA Tryz.prog 2 vs = some (.enter 2 vs) := enter_of Tryz.func2 rfl (by decide +kernel)
theorem en3 : ∀ vs, enterA Tryz.prog 3 vs = some (.enter 3 vs) := enter_of Tryz.func3 rfl (by decide +kernel)
theorem en4 : ∀ vs, enterA Tryz.prog 4 vs = some (.enter 4 vs) := enter_of Tryz.func4 rfl (by decide +kernel)
theorem en5 : ∀ vs, enterA Tryz.prog 5 vs = some (.enter 5 vs) := enter_of Tryz.func5 rfl (by decide +kernel)
theorem en6 : ∀ vs, enterA Tryz.prog 6 vs = some (.enter 6 vs) := enter_of Tryz.func6 rfl (by decide +kernel)
theorem en7 : ∀ vs, enterA Tryz.prog 7 vs = some (.enter 7 vs) := enter_of Tryz.func7 rfl (by decide +kernel)
theorem en8 : ∀ vs, enterA Tryz.prog 8 vs = some (.enter 8 vs) := enter_of Tryz.func8 rfl (by decide +kernel)
theorem en9 : ∀ vs, enterA Tryz.prog 9 vs = some (.enter 9 vs) := enter_of Tryz.func9 rfl (by decide +kernel)
theorem en10 : ∀ vs, enterA Tryz.prog 10 vs = some (.enter 10 vs) := enter_of Tryz.func10 rfl (by decide +kernel)
theorem en11 : ∀ vs, enterA Tryz.prog 11 vs = some (.enter 11 vs) := enter_of Tryz.func11 rfl (by decide +kernel)
theorem en12 : ∀ vs, enterA Tryz.prog 12 vs = some (.enter 12 vs) := enter_of Tryz.func12 rfl (by decide +kernel)
theorem en13 : ∀ vs, enterA Tryz.prog 13 vs = some (.enter 13 vs) := enter_of Tryz.func13 rfl (by decide +kernel)
theorem en14 : ∀ vs, enterA Tryz.prog 14 vs = some (.enter 14 vs) := enter_of Tryz.func14 rfl (by decide +kernel)
theorem en15 : ∀ vs, enterA Tryz.prog 15 vs = some (.enter 15 vs) := enter_of Tryz.func15 rfl (by decide +kernel)
theorem en16 : ∀ vs, enterA Tryz.prog 16 vs = some (.enter 16 vs) := enter_of Tryz.func16 rfl (by decide +kernel)
theorem en17 : ∀ vs, enterA Tryz.prog 17 vs = some (.enter 17 vs) := enter_of Tryz.func17 rfl (by decide +kernel)
theorem en18 : ∀ vs, enterA Tryz.prog 18 vs = some (.enter 18 vs) := enter_of Tryz.func18 rfl (by decide +kernel)
theorem en19 : ∀ vs, enterA Tryz.prog 19 vs = some (.enter 19 vs) := enter_of Tryz.func19 rfl (by decide +kernel)
theorem en20 : ∀ vs, enterA Tryz.prog 20 vs = some (.enter 20 vs) := enter_of Tryz.func20 rfl (by decide +kernel)
theorem en21 : ∀ vs, enterA Tryz.prog 21 vs = some (.enter 21 vs) := enter_of Tryz.func21 rfl (by decide +kernel)
theorem en22 : ∀ vs, enterA Tryz.prog 22 vs = some (.enter 22 vs) := enter_of Tryz.func22 rfl (by decide +kernel)
theorem en23 : ∀ vs, enterA Tryz.prog 23 vs = some (.enter 23 vs) := enter_of Tryz.func23 rfl (by decide +kernel)
theorem en24 : ∀ vs, enterA Tryz.prog 24 vs = some (.enter 24 vs) := enter_of Tryz.func24 rfl (by decide +kernel)
theorem en25 : ∀ vs, enterA Tryz.prog 25 vs = some (.enter 25 vs) := enter_of Tryz.func25 rfl (by decide +kernel)
theorem en26 : ∀ vs, enterA Tryz.prog 26 vs = some (.enter 26 vs) := enter_of Tryz.func26 rfl (by decide +kernel)
theorem en27 : ∀ vs, enterA Tryz.prog 27 vs = some (.enter 27 vs) := enter_of Tryz.func27 rfl (by decide +kernel)
theorem en28 : ∀ vs, enterA Tryz.prog 28 vs = some (.enter 28 vs) := enter_of Tryz.func28 rfl (by decide +kernel)
theorem en29 : ∀ vs, enterA Tryz.prog 29 vs = some (.enter 29 vs) := enter_of Tryz.func29 rfl (by decide +kernel)
theorem en30 : ∀ vs, enterA Tryz.prog 30 vs = some (.enter 30 vs) := enter_of Tryz.func30 rfl (by decide +kernel)
theorem en31 : ∀ vs, enterA Tryz.prog 31 vs = some (.enter 31 vs) := enter_of Tryz.func31 rfl (by decide +kernel)
theorem en35 : ∀ vs, enterA Tryz.prog 35 vs = some (.enter 35 vs) := enter_of Tryz.func35 rfl (by decide +kernel)
theorem en36 : ∀ vs, enterA Tryz.prog 36 vs = some (.enter 36 vs) := enter_of Tryz.func36 rfl (by decide +kernel)
theorem en37 : ∀ vs, enterA Tryz.prog 37 vs = some (.enter 37 vs) := enter_of Tryz.func37 rfl (by decide +kernel)
theorem en38 : ∀ vs, enterA Tryz.prog 38 vs = some (.enter 38 vs) := enter_of Tryz.func38 rfl (by decide +kernel)
theorem en39 : ∀ vs, enterA Tryz.prog 39 vs = some (.enter 39 vs) := enter_of Tryz.func39 rfl (by decide +kernel)
theorem en40 : ∀ vs, enterA Tryz.prog 40 vs = some (.enter 40 vs) := enter_of Tryz.func40 rfl (by decide +kernel)
theorem en41 : ∀ vs, enterA Tryz.prog 41 vs = some (.enter 41 vs) := enter_of Tryz.func41 rfl (by decide +kernel)
theorem en42 : ∀ vs, enterA Tryz.prog 42 vs = some (.enter 42 vs) := enter_of Tryz.func42 rfl (by decide +kernel)
theorem en43 : ∀ vs, enterA Tryz.prog 43 vs = some (.enter 43 vs) := enter_of Tryz.func43 rfl (by decide +kernel)
theorem en44 : ∀ vs, enterA Tryz.prog 44 vs = some (.enter 44 vs) := enter_of Tryz.func44 rfl (by decide +kernel)
theorem en45 : ∀ vs, enterA Tryz.prog 45 vs = some (.enter 45 vs) := enter_of Tryz.func45 rfl (by decide +kernel)
theorem en46 : ∀ vs, enterA Tryz.prog 46 vs = some (.enter 46 vs) := enter_of Tryz.func46 rfl (by decide +kernel)
theorem en47 : ∀ vs, enterA Tryz.prog 47 vs = some (.enter 47 vs) := enter_of Tryz.func47 rfl (by decide +kernel)
theorem en48 : ∀ vs, enterA Tryz.prog 48 vs = some (.enter 48 vs) := enter_of Tryz.func48 rfl (by decide +kernel)
theorem en49 : ∀ vs, enterA Tryz.prog 49 vs = some (.enter 49 vs) := enter_of Tryz.func49 rfl (by decide +kernel)
theorem en50 : ∀ vs, enterA Tryz.prog 50 vs = some (.enter 50 vs) := enter_of Tryz.func50 rfl (by decide +kernel)
theorem en51 : ∀ vs, enterA Tryz.prog 51 vs = some (.enter 51 vs) := enter_of Tryz.func51 rfl (by decide +kernel)
theorem en52 : ∀ vs, enterA Tryz.prog 52 vs = some (.enter 52 vs) := enter_of Tryz.func52 rfl (by decide +kernel)
theorem en53 : ∀ vs, enterA Tryz.prog 53 vs = some (.enter 53 vs) := enter_of Tryz.func53 rfl (by decide +kernel)
theorem en57 : ∀ vs, enterA Tryz.prog 57 vs = some (.enter 57 vs) := enter_of Tryz.func57 rfl (by decide +kernel)
theorem en58 : ∀ vs, enterA Tryz.prog 58 vs = some (.enter 58 vs) := enter_of Tryz.func58 rfl (by decide +kernel)
theorem en59 : ∀ vs, enterA Tryz.prog 59 vs = some (.enter 59 vs) := enter_of Tryz.func59 rfl (by decide +kernel)
theorem en60 : ∀ vs, enterA Tryz.prog 60 vs = some (.enter 60 vs) := enter_of Tryz.func60 rfl (by decide +kernel)
theorem en61 : ∀ vs, enterA Tryz.prog 61 vs = some (.enter 61 vs) := enter_of Tryz.func61 rfl (by decide +kernel)
theorem en62 : ∀ vs, enterA Tryz.prog 62 vs = some (.enter 62 vs) := enter_of Tryz.func62 rfl (by decide +kernel)
theorem en63 : ∀ vs, enterA Tryz.prog 63 vs = some (.enter 63 vs) := enter_of Tryz.func63 rfl (by decide +kernel)
theorem en64 : ∀ vs, enterA Tryz.prog 64 vs = some (.enter 64 vs) := enter_of Tryz.func64 rfl (by decide +kernel)
theorem en65 : ∀ vs, enterA Tryz.prog 65 vs = some (.enter 65 vs) := enter_of Tryz.func65 rfl (by decide +kernel)
theorem en66 : ∀ vs, enterA Tryz.prog 66 vs = some (.enter 66 vs) := enter_of Tryz.func66 rfl (by decide +kernel)
theorem en67 : ∀ vs, enterA Tryz.prog 67 vs = some (.enter 67 vs) := enter_of Tryz.func67 rfl (by decide +kernel)
theorem en68 : ∀ vs, enterA Tryz.prog 68 vs = some (.enter 68 vs) := enter_of Tryz.func68 rfl (by decide +kernel)
theorem en69 : ∀ vs, enterA Tryz.prog 69 vs = some (.enter 69 vs) := enter_of Tryz.func69 rfl (by decide +kernel)
theorem en70 : ∀ vs, enterA Tryz.prog 70 vs = some (.enter 70 vs) := enter_of Tryz.func70 rfl (by decide +kernel)
theorem en71 : ∀ vs, enterA Tryz.prog 71 vs = some (.enter 71 vs) := enter_of Tryz.func71 rfl (by decide +kernel)
theorem en72 : ∀ vs, enterA Tryz.prog 72 vs = some (.enter 72 vs) := enter_of Tryz.func72 rfl (by decide +kernel)
theorem en73 : ∀ vs, enterA Tryz.prog 73 vs = some (.enter 73 vs) := enter_of Tryz.func73 rfl (by decide +kernel)
theorem en74 : ∀ vs, enterA Tryz.prog 74 vs = some (.enter 74 vs) := enter_of Tryz.func74 rfl (by decide +kernel)
theorem en75 : ∀ vs, enterA Tryz.prog 75 vs = some (.enter 75 vs) := enter_of Tryz.func75 rfl (by decide +kernel)
theorem en76 : ∀ vs, enterA Tryz.prog 76 vs = some (.enter 76 vs) := enter_of Tryz.func76 rfl (by decide +kernel)
theorem en77 : ∀ vs, enterA Tryz.prog 77 vs = some (.enter 77 vs) := enter_of Tryz.func77 rfl (by decide +kernel)
theorem en78 : ∀ vs, enterA Tryz.prog 78 vs = some (.enter 78 vs) := enter_of Tryz.func78 rfl (by decide +kernel)
theorem en79 : ∀ vs, enterA Tryz.prog 79 vs = some (.enter 79 vs) := enter_of Tryz.func79 rfl (by decide +kernel)
theorem en80 : ∀ vs, enterA Tryz.prog 80 vs = some (.enter 80 vs) := enter_of Tryz.func80 rfl (by decide +kernel)
theorem en81 : ∀ vs, enterA Tryz.prog 81 vs = some (.enter 81 vs) := enter_of Tryz.func81 rfl (by decide +kernel)
theorem en82 : ∀ vs, enterA Tryz.prog 82 vs = some (.enter 82 vs) := enter_of Tryz.func82 rfl (by decide +kernel)
theorem en83 : ∀ vs, enterA Tryz.prog 83 vs = some (.enter 83 vs) := enter_of Tryz.func83 rfl (by decide +kernel)
theorem en84 : ∀ vs, enterA Tryz.prog 84 vs = some (.enter 84 vs) := enter_of Tryz.func84 rfl (by decide +kernel)
theorem en85 : ∀ vs, enterA Tryz.prog 85 vs = some (.enter 85 vs) := enter_of Tryz.func85 rfl (by decide +kernel)
theorem en86 : ∀ vs, enterA Tryz.prog 86 vs = some (.enter 86 vs) := enter_of Tryz.func86 rfl (by decide +kernel)
theorem en87 : ∀ vs, enterA Tryz.prog 87 vs = some (.enter 87 vs) := enter_of Tryz.func87 rfl (by decide +kernel)
theorem en88 : ∀ vs, enterA Tryz.prog 88 vs = some (.enter 88 vs) := enter_of Tryz.func88 rfl (by decide +kernel)
theorem en89 : ∀ vs, enterA Tryz.prog 89 vs = some (.enter 89 vs) := enter_of Tryz.func89 rfl (by decide +kernel)
theorem en90 : ∀ vs, enterA Tryz.prog 90 vs = some (.enter 90 vs) := enter_of Tryz.func90 rfl (by decide +kernel)
theorem en91 : ∀ vs, enterA Tryz.prog 91 vs = some (.enter 91 vs) := enter_of Tryz.func91 rfl (by decide +kernel)
theorem en92 : ∀ vs, enterA Tryz.prog 92 vs = some (.enter 92 vs) := enter_of Tryz.func92 rfl (by decide +kernel)
theorem en93 : ∀ vs, enterA Tryz.prog 93 vs = some (.enter 93 vs) := enter_of Tryz.func93 rfl (by decide +kernel)
theorem en94 : ∀ vs, enterA Tryz.prog 94 vs = some (.enter 94 vs) := enter_of Tryz.func94 rfl (by decide +kernel)
theorem en95 : ∀ vs, enterA Tryz.prog 95 vs = some (.enter 95 vs) := enter_of Tryz.func95 rfl (by decide +kernel)
theorem en96 : ∀ vs, enterA Tryz.prog 96 vs = some (.enter 96 vs) := enter_of Tryz.func96 rfl (by decide +kernel)
theorem en97 : ∀ vs, enterA Tryz.prog 97 vs = some (.enter 97 vs) := enter_of Tryz.func97 rfl (by decide +kernel)
theorem en98 : ∀ vs, enterA Tryz.prog 98 vs = some (.enter 98 vs) := enter_of Tryz.func98 rfl (by decide +kernel)
theorem en99 : ∀ vs, enterA Tryz.prog 99 vs = some (.enter 99 vs) := enter_of Tryz.func99 rfl (by decide +kernel)
theorem en100 : ∀ vs, enterA Tryz.prog 100 vs = some (.enter 100 vs) := enter_of Tryz.func100 rfl (by decide +kernel)
theorem en101 : ∀ vs, enterA Tryz.prog 101 vs = some (.enter 101 vs) := enter_of Tryz.func101 rfl (by decide +kernel)
theorem en102 : ∀ vs, enterA Tryz.prog 102 vs = some (.enter 102 vs) := enter_of Tryz.func102 rfl (by decide +kernel)
theorem en103 : ∀ vs, enterA Tryz.prog 103 vs = some (.enter 103 vs) := enter_of Tryz.func103 rfl (by decide +kernel)
theorem en104 : ∀ vs, enterA Tryz.prog 104 vs = some (.enter 104 vs) := enter_of Tryz.func104 rfl (by decide +kernel)
theorem en105 : ∀ vs, enterA Tryz.prog 105 vs = some (.enter 105 vs) := enter_of Tryz.func105 rfl (by decide +kernel)
theorem en106 : ∀ vs, enterA Tryz.prog 106 vs = some (.enter 106 vs) := enter_of Tryz.func106 rfl (by decide +kernel)
theorem en107 : ∀ vs, enterA Tryz.prog 107 vs = some (.enter 107 vs) := enter_of Tryz.func107 rfl (by decide +kernel)
theorem en108 : ∀ vs, enterA Tryz.prog 108 vs = some (.enter 108 vs) := enter_of Tryz.func108 rfl (by decide +kernel)
theorem en109 : ∀ vs, enterA Tryz.prog 109 vs = some (.enter 109 vs) := enter_of Tryz.func109 rfl (by decide +kernel)
theorem en110 : ∀ vs, enterA Tryz.prog 110 vs = some (.enter 110 vs) := enter_of Tryz.func110 rfl (by decide +kernel)
theorem en111 : ∀ vs, enterA Tryz.prog 111 vs = some (.enter 111 vs) := enter_of Tryz.func111 rfl (by decide +kernel)
theorem en112 : ∀ vs, enterA Tryz.prog 112 vs = some (.enter 112 vs) := enter_of Tryz.func112 rfl (by decide +kernel)
theorem en113 : ∀ vs, enterA Tryz.prog 113 vs = some (.enter 113 vs) := enter_of Tryz.func113 rfl (by decide +kernel)
theorem en114 : ∀ vs, enterA Tryz.prog 114 vs = some (.enter 114 vs) := enter_of Tryz.func114 rfl (by decide +kernel)
theorem en115 : ∀ vs, enterA Tryz.prog 115 vs = some (.enter 115 vs) := enter_of Tryz.func115 rfl (by decide +kernel)
theorem en116 : ∀ vs, enterA Tryz.prog 116 vs = some (.enter 116 vs) := enter_of Tryz.func116 rfl (by decide +kernel)
theorem en117 : ∀ vs, enterA Tryz.prog 117 vs = some (.enter 117 vs) := enter_of Tryz.func117 rfl (by decide +kernel)
theorem en118 : ∀ vs, enterA Tryz.prog 118 vs = some (.enter 118 vs) := enter_of Tryz.func118 rfl (by decide +kernel)
theorem en119 : ∀ vs, enterA Tryz.prog 119 vs = some (.enter 119 vs) := enter_of Tryz.func119 rfl (by decide +kernel)
theorem en120 : ∀ vs, enterA Tryz.prog 120 vs = some (.enter 120 vs) := enter_of Tryz.func120 rfl (by decide +kernel)
theorem en121 : ∀ vs, enterA Tryz.prog 121 vs = some (.enter 121 vs) := enter_of Tryz.func121 rfl (by decide +kernel)
theorem en122 : ∀ vs, enterA Tryz.prog 122 vs = some (.enter 122 vs) := enter_of Tryz.func122 rfl (by decide +kernel)
theorem en123 : ∀ vs, enterA Tryz.prog 123 vs = some (.enter 123 vs) := enter_of Tryz.func123 rfl (by decide +kernel)
theorem en124 : ∀ vs, enterA Tryz.prog 124 vs = some (.enter 124 vs) := enter_of Tryz.func124 rfl (by decide +kernel)
theorem en125 : ∀ vs, enterA Tryz.prog 125 vs = some (.enter 125 vs) := enter_of Tryz.func125 rfl (by decide +kernel)
theorem en126 : ∀ vs, enterA Tryz.prog 126 vs = some (.enter 126 vs) := enter_of Tryz.func126 rfl (by decide +kernel)
theorem en127 : ∀ vs, enterA Tryz.prog 127 vs = some (.enter 127 vs) := enter_of Tryz.func127 rfl (by decide +kernel)
theorem en128 : ∀ vs, enterA Tryz.prog 128 vs = some (.enter 128 vs) := enter_of Tryz.func128 rfl (by decide +kernel)
theorem en129 : ∀ vs, enterA Tryz.prog 129 vs = some (.enter 129 vs) := enter_of Tryz.func129 rfl (by decide +kernel)
theorem en130 : ∀ vs, enterA Tryz.prog 130 vs = some (.enter 130 vs) := enter_of Tryz.func130 rfl (by decide +kernel)
theorem en131 : ∀ vs, enterA Tryz.prog 131 vs = some (.enter 131 vs) := enter_of Tryz.func131 rfl (by decide +kernel)
theorem en132 : ∀ vs, enterA Tryz.prog 132 vs = some (.enter 132 vs) := enter_of Tryz.func132 rfl (by decide +kernel)
theorem en133 : ∀ vs, enterA Tryz.prog 133 vs = some (.enter 133 vs) := enter_of Tryz.func133 rfl (by decide +kernel)
theorem en134 : ∀ vs, enterA Tryz.prog 134 vs = some (.enter 134 vs) := enter_of Tryz.func134 rfl (by decide +kernel)
theorem en135 : ∀ vs, enterA Tryz.prog 135 vs = some (.enter 135 vs) := enter_of Tryz.func135 rfl (by decide +kernel)
theorem en136 : ∀ vs, enterA Tryz.prog 136 vs = some (.enter 136 vs) := enter_of Tryz.func136 rfl (by decide +kernel)
theorem en137 : ∀ vs, enterA Tryz.prog 137 vs = some (.enter 137 vs) := enter_of Tryz.func137 rfl (by decide +kernel)
theorem en138 : ∀ vs, enterA Tryz.prog 138 vs = some (.enter 138 vs) := enter_of Tryz.func138 rfl (by decide +kernel)
theorem en139 : ∀ vs, enterA Tryz.prog 139 vs = some (.enter 139 vs) := enter_of Tryz.func139 rfl (by decide +kernel)
theorem en140 : ∀ vs, enterA Tryz.prog 140 vs = some (.enter 140 vs) := enter_of Tryz.func140 rfl (by decide +kernel)
theorem en141 : ∀ vs, enterA Tryz.prog 141 vs = some (.enter 141 vs) := enter_of Tryz.func141 rfl (by decide +kernel)
theorem en142 : ∀ vs, enterA Tryz.prog 142 vs = some (.enter 142 vs) := enter_of Tryz.func142 rfl (by decide +kernel)
theorem en143 : ∀ vs, enterA Tryz.prog 143 vs = some (.enter 143 vs) := enter_of Tryz.func143 rfl (by decide +kernel)
theorem en144 : ∀ vs, enterA Tryz.prog 144 vs = some (.enter 144 vs) := enter_of Tryz.func144 rfl (by decide +kernel)
theorem en145 : ∀ vs, enterA Tryz.prog 145 vs = some (.enter 145 vs) := enter_of Tryz.func145 rfl (by decide +kernel)
theorem en146 : ∀ vs, enterA Tryz.prog 146 vs = some (.enter 146 vs) := enter_of Tryz.func146 rfl (by decide +kernel)
theorem en147 : ∀ vs, enterA Tryz.prog 147 vs = some (.enter 147 vs) := enter_of Tryz.func147 rfl (by decide +kernel)
theorem en148 : ∀ vs, enterA Tryz.prog 148 vs = some (.enter 148 vs) := enter_of Tryz.func148 rfl (by decide +kernel)
theorem en149 : ∀ vs, enterA Tryz.prog 149 vs = some (.enter 149 vs) := enter_of Tryz.func149 rfl (by decide +kernel)
theorem en150 : ∀ vs, enterA Tryz.prog 150 vs = some (.enter 150 vs) := enter_of Tryz.func150 rfl (by decide +kernel)
theorem en151 : ∀ vs, enterA Tryz.prog 151 vs = some (.enter 151 vs) := enter_of Tryz.func151 rfl (by decide +kernel)
theorem en152 : ∀ vs, enterA Tryz.prog 152 vs = some (.enter 152 vs) := enter_of Tryz.func152 rfl (by decide +kernel)
theorem en153 : ∀ vs, enterA Tryz.prog 153 vs = some (.enter 153 vs) := enter_of Tryz.func153 rfl (by decide +kernel)
theorem en154 : ∀ vs, enterA Tryz.prog 154 vs = some (.enter 154 vs) := enter_of Tryz.func154 rfl (by decide +kernel)
theorem en155 : ∀ vs, enterA Tryz.prog 155 vs = some (.enter 155 vs) := enter_of Tryz.func155 rfl (by decide +kernel)
theorem en156 : ∀ vs, enterA Tryz.prog 156 vs = some (.enter 156 vs) := enter_of Tryz.func156 rfl (by decide +kernel)
theorem en157 : ∀ vs, enterA Tryz.prog 157 vs = some (.enter 157 vs) := enter_of Tryz.func157 rfl (by decide +kernel)
theorem en158 : ∀ vs, enterA Tryz.prog 158 vs = some (.enter 158 vs) := enter_of Tryz.func158 rfl (by decide +kernel)
theorem en159 : ∀ vs, enterA Tryz.prog 159 vs = some (.enter 159 vs) := enter_of Tryz.func159 rfl (by decide +kernel)
theorem en160 : ∀ vs, enterA Tryz.prog 160 vs = some (.enter 160 vs) := enter_of Tryz.func160 rfl (by decide +kernel)
theorem en161 : ∀ vs, enterA Tryz.prog 161 vs = some (.enter 161 vs) := enter_of Tryz.func161 rfl (by decide +kernel)
theorem en162 : ∀ vs, enterA Tryz.prog 162 vs = some (.enter 162 vs) := enter_of Tryz.func162 rfl (by decide +kernel)
theorem en163 : ∀ vs, enterA Tryz.prog 163 vs = some (.enter 163 vs) := enter_of Tryz.func163 rfl (by decide +kernel)
theorem en164 : ∀ vs, enterA Tryz.prog 164 vs = some (.enter 164 vs) := enter_of Tryz.func164 rfl (by decide +kernel)
theorem en165 : ∀ vs, enterA Tryz.prog 165 vs = some (.enter 165 vs) := enter_of Tryz.func165 rfl (by decide +kernel)
theorem en166 : ∀ vs, enterA Tryz.prog 166 vs = some (.enter 166 vs) := enter_of Tryz.func166 rfl (by decide +kernel)
theorem en167 : ∀ vs, enterA Tryz.prog 167 vs = some (.enter 167 vs) := enter_of Tryz.func167 rfl (by decide +kernel)
theorem en168 : ∀ vs, enterA Tryz.prog 168 vs = some (.enter 168 vs) := enter_of Tryz.func168 rfl (by decide +kernel)
theorem en169 : ∀ vs, enterA Tryz.prog 169 vs = some (.enter 169 vs) := enter_of Tryz.func169 rfl (by decide +kernel)
theorem en170 : ∀ vs, enterA Tryz.prog 170 vs = some (.enter 170 vs) := enter_of Tryz.func170 rfl (by decide +kernel)
theorem en171 : ∀ vs, enterA Tryz.prog 171 vs = some (.enter 171 vs) := enter_of Tryz.func171 rfl (by decide +kernel)
theorem en172 : ∀ vs, enterA Tryz.prog 172 vs = some (.enter 172 vs) := enter_of Tryz.func172 rfl (by decide +kernel)
theorem en173 : ∀ vs, enterA Tryz.prog 173 vs = some (.enter 173 vs) := enter_of Tryz.func173 rfl (by decide +kernel)
theorem en192 : ∀ vs, enterA Tryz.prog 192 vs = some (.enter 192 vs) := enter_of Tryz.func192 rfl (by decide +kernel)
theorem en195 : ∀ vs, enterA Tryz.prog 195 vs = some (.enter 195 vs) := enter_of Tryz.func195 rfl (by decide +kernel)
theorem en211 : ∀ vs, enterA Tryz.prog 211 vs = some (.enter 211 vs) := enter_of Tryz.func211 rfl (by decide +kernel)
theorem en215 : ∀ vs, enterA Tryz.prog 215 vs = some (.enter 215 vs) := enter_of Tryz.func215 rfl (by decide +kernel)
theorem en226 : ∀ vs, enterA Tryz.prog 226 vs = some (.enter 226 vs) := enter_of Tryz.func226 rfl (by decide +kernel)
end Go.Proofs.ZL
end

section
open Go Go.Am
namespace Go.Proofs.ZL
set_option maxRecDepth 100000
set_option linter.unusedSimpArgs false
set_option linter.unusedVariables false
set_option maxHeartbeats 4000000

def runN (p : Int → Bool) (src : ByteArray) (at_ : Nat) : Nat := ((src.data.toList.drop at_).takeWhile fun b => p b.toNat).length

theorem takeWhile_len {α} (q : α → Bool) : ∀ (l : List α) (n : Nat), (∀ j, j < n → ∃ x, l[j]? = some x ∧ q x = true) → (∀ x, l[n]? = some x → q x = false) → (l.takeWhile q).length = n
 | [], 0, _, _ => rfl
 | [], n + 1, h, _ => by obtain ⟨x, hx, _⟩ := h 0 (by omega); simp at hx
 | a :: l, 0, _, h => by simp [h a (by simp)]
 | a :: l, n + 1, h, h2 => by
  obtain ⟨x, hx, hq⟩ := h 0 (by omega)
  simp at hx; subst hx
  rw [List.takeWhile_cons, if_pos hq, List.length_cons, takeWhile_len q l n (fun j hj => by simpa using h (j + 1) (by omega)) (fun x hx => h2 x (by simpa using hx))]

theorem byteN_get {s : ByteArray} {k : Nat} (hk : k < s.size) : ∃ b, s.data.toList[k]? = some b ∧ byteN s k = b.toNat := by
 have hk' : k < s.data.toList.length := by simpa using hk
 refine ⟨s.data.toList[k], List.getElem?_eq_getElem hk', ?_⟩
 unfold byteN
 rw [List.getD_eq_getElem?_getD, Int.toNat_natCast, List.getElem?_eq_getElem hk']; rfl

theorem runN_eq {p : Int → Bool} {src : ByteArray} {a n : Nat} (hall : ∀ j, j < n → p (byteN src ((a + j : Nat) : Int)) = true) (hn : a + n ≤ src.size) (hend : a + n < src.size → p (byteN src ((a + n : Nat) : Int)) = false) : runN p src a = n := by
 refine takeWhile_len _ _ _ (fun j hj => ?_) fun x hx => ?_
 ·obtain ⟨b, hb, hv⟩ := byteN_get (s := src) (k := a + j) (by omega)
  exact ⟨b, by simpa using hb, by have := hall j hj; rwa [hv] at this⟩
 ·simp only [List.getElem?_drop] at hx
  have hlt : a + n < src.size := by
   rcases Nat.lt_or_ge (a + n) src.size with h | h
   ·exact h
   ·rw [List.getElem?_eq_none (by simpa using h)] at hx; cases hx
  obtain ⟨b, hb, hv⟩ := byteN_get hlt
  rw [hx] at hb; cases hb
  have := hend hlt; rwa [hv] at this

def Tells (f : FuncId) (p : Int → Bool) : Prop := (∀ vs, enterA Tryz.prog f vs = some (.enter f vs)) ∧ ∀ (c : Int) (h : Heap) (Q : ARes → Prop), 0 ≤ c ∧ c ≤ 255 → Q (.ret (.bool (p c)) h) → WCall Tryz.prog G X f [.int .u8 c] h Q

theorem run_w {s : Nat} {src : ByteArray} {a : Nat} {lv : Value} {f : FuncId} {p : Int → Bool} {h : Heap} {Q : ARes → Prop} (hf : Tells f p) (hsz : src.size ≤ 100000) (ho : h.obj s = some (.cells false [.string src, .int .i64 a, lv])) (hat : a ≤ src.size)
  (hq : Q (.ret (.int .i64 (runN p src a)) h)) : WCall Tryz.prog G X 62 [.pointer (some ⟨s, 0, none⟩), .func (.func f) #[] #[]] h Q := by
 refine WCall.walk hX Tryz.func62 rfl rfl Tryz.ntmps62 rfl ?_
 refine QN hX ?_;refine QK (Qb ?_);refine QO hX ?_;refine QK (Qb ?_);refine QL ?_;refine QU hX ?_;refine WC.block hX ?_
 refine WC.loopInv hX (m := fun n : Nat => src.size - a - n) (Inv := fun n e h' => e 0 = some (.pointer (some ⟨s, 0, none⟩)) ∧ e 1 = some (.func (.func f) #[] #[]) ∧ e 5 = some (.int .i64 n) ∧ h' = h ∧ a + n ≤ src.size ∧ ∀ j, j < n → p (byteN src ((a + j : Nat) : Int)) = true) 0 ⟨rfl, rfl, rfl, rfl, by omega, by omega⟩ ?_
 intro n env h' ih ⟨e0, e1, e5, eh, hle, hall⟩
 subst eh
 refine QU hX ?_;refine QU hX ?_;refine WC.drawn (id := 2) hX (l := [⟨0, .pure, 0⟩, ⟨1, .pure, 1⟩, ⟨2, .pure, 3⟩, ⟨3, .read, 7⟩, ⟨4, .pure, 0⟩, ⟨5, .pure, 31⟩, ⟨6, .pure, 0⟩, ⟨7, .pure, 64⟩, ⟨8, .pure, 192⟩, ⟨9, .read, 448⟩, ⟨10, .read, 960⟩, ⟨11, .pure, 2047⟩, ⟨12, .pure, 4095⟩, ⟨13, .pure, 8191⟩, ⟨14, .pure, 8191⟩, ⟨15, .pure, 24575⟩, ⟨16, .pure, 57343⟩, ⟨17, .read, 122879⟩, ⟨18, .pure, 8191⟩, ⟨19, .pure, 270335⟩, ⟨20, .pure, 794623⟩, ⟨21, .read, 1843199⟩, ⟨22, .pure, 8191⟩, ⟨23, .pure, 8134655⟩, ⟨24, .pure, 16769023⟩, ⟨25, .heavy, 33554431⟩, ⟨26, .pure, 67108863⟩]) (hw := ?_);refine QW (k := Qa ?_);refine QW (k := Qi ?_);refine QW (k := Qj ?_);refine QX (k := Qt ?_);refine QW (k := Qa ?_);refine QW (k := Qf ?_);refine QW (k := Qa ?_);refine QW (k := Qi ?_);refine QW (k := Qj ?_);refine QX (k := Qt ?_);refine QX (k := Qr ?_);refine QW (k := QF ?_ ?_);intro hh;refine QW (k := Qa ?_);refine QW (k := Qa ?_);refine QW (k := Qa ?_);refine QW (k := Qi ?_);refine QW (k := Qj ?_);refine QX (k := Qt ?_);refine QW (k := Qa ?_);refine QW (k := Qi ?_);refine QW (k := Qj ?_);refine QX (k := Qt ?_);refine QW (k := Qa ?_);refine QW (k := Qf ?_);refine QW (k := Qm ?_);refine WD.heavy hX (hw := ?_);rotate_left;intro hh;refine QW (k := Qa ?_);refine QW (k := QA ?_);refine QW (k := QA ?_);refine QW (k := QA ?_);refine QW (k := QA ?_);refine QX (k := QA ?_);refine QW (k := QA ?_);refine QW (k := QA ?_);refine QW (k := QA ?_);refine QX (k := QA ?_);refine QW (k := QA ?_);refine QW (k := QA ?_);refine QW (k := QA ?_);refine WD.heavy hX (hw := QA ?_);refine QW (k := Qd ?_);refine WD.nil (hq := ?_);refine QS hX ?_;refine WC.exit ?_;refine exit_here ?_;refine QN hX ?_;refine QK (Qa ?_);refine QK (Qb ?_);refine QM ?_;rotate_left
 ·apply WS.callV; (· rfl); (· rfl); (· exact Wwev); (· rfl); (· rfl); (· exact hf.1)
  refine hf.2 _ _ _ (byteN_range _ _) ?_
  refine QW (k := Qc ?_);refine WD.nil (hq := ?_);refine WC.condB hX (h1 := ?_) (h2 := ?_);intro hh;refine UA ?_;refine WC.block hX ?_;refine QV hX ?_;refine QK (Qa ?_);refine QK (Qf ?_);refine QK (Qb ?_);refine QL ?_;rotate_left;intro hh;refine WC.exit ?_;refine exit_here ?_;refine QN hX ?_;refine QK (Qa ?_);refine QK (Qb ?_);refine QM ?_;rotate_left
  ·refine ih (n + 1) _ _ (by omega) ⟨e0, e1, rfl, rfl, by omega, fun j hj => ?_⟩
   rcases Nat.lt_succ_iff_lt_or_eq.1 hj with hj | rfl
   ·exact hall j hj
   ·exact hh
  ·refine ⟨_, rfl, ?_⟩
   rw [runN_eq hall hle fun _ => hh] at hq
   exact hq
 ·refine ⟨_, rfl, ?_⟩
  rw [runN_eq hall hle fun _ => by omega] at hq
  exact hq

end Go.Proofs.ZL
end

section
open Go Go.Am
namespace Go.Proofs.ZL
set_option maxRecDepth 100000
set_option linter.unusedSimpArgs false
set_option linter.unusedVariables false
set_option maxHeartbeats 4000000

structure Tok where
 kind : Int
 text : ByteArray
 num : Int
 pos : Int
 deriving DecidableEq

def Tok.cells (t : Tok) : List Value := [.int .i64 t.kind, .string t.text, .int .i64 t.num, .int .i64 t.pos]
def cellsOf (l : List Tok) : List Value := l.flatMap Tok.cells

theorem cellsOf_length (l : List Tok) : (cellsOf l).length = l.length * 4 := by
 induction l with
 | nil => rfl
 | cons a l ih => simp only [cellsOf, List.flatMap_cons, List.length_append, List.length_cons] at ih ⊢; rw [ih]; simp [Tok.cells]; omega

def Toks (h : Heap) (lo : Nat) (b : Option Addr) (n es : Nat) (l : List Tok) : Prop :=
 (b = none ∧ n = 0 ∧ es = 0 ∧ l = []) ∨ ∃ i, b = some ⟨i, 0, none⟩ ∧ lo ≤ i ∧ i < h.next ∧ es = 4 ∧ n = l.length ∧ h.obj i = some (.cells false (cellsOf l))

theorem Toks.len {h : Heap} {lo : Nat} {b : Option Addr} {n es : Nat} {l : List Tok} (ht : Toks h lo b n es l) : n = l.length := by
 rcases ht with ⟨_, rfl, _, rfl⟩ | ⟨i, _, _, _, _, rfl, _⟩ <;> rfl

theorem Toks.at {h : Heap} {lo : Nat} {b : Option Addr} {n es : Nat} {l : List Tok} (ht : Toks h lo b n es l) : SliceAt h b n es 4 (cellsOf l) := by
 rcases ht with ⟨rfl, rfl, rfl, rfl⟩ | ⟨i, rfl, _, _, rfl, rfl, ho⟩
 ·exact .inl ⟨rfl, rfl, rfl, rfl⟩
 ·exact .inr ⟨i, 0, _, rfl, rfl, ho, by rw [cellsOf_length]; omega, by rw [List.drop_zero, List.take_of_length_le (by rw [cellsOf_length]; omega)]⟩

theorem Toks.mono {h h' : Heap} {lo : Nat} {b : Option Addr} {n es : Nat} {l : List Tok} (ht : Toks h lo b n es l) (hn : h.next ≤ h'.next) (ho : ∀ j, lo ≤ j → j < h.next → h'.obj j = h.obj j) : Toks h' lo b n es l := by
 rcases ht with ⟨rfl, rfl, rfl, rfl⟩ | ⟨i, rfl, h1, h2, rfl, rfl, h3⟩
 ·exact .inl ⟨rfl, rfl, rfl, rfl⟩
 ·exact .inr ⟨i, rfl, h1, by omega, rfl, rfl, by rw [ho i h1 h2]; exact h3⟩

def Sc (h : Heap) (s : Nat) (src : ByteArray) (k : Nat) (l : List Tok) : Prop :=
 s < h.next ∧ ∃ b n es, h.obj s = some (.cells false [.string src, .int .i64 k, .slice b n es]) ∧ Toks h (s + 1) b n es l

def Fr (s : Nat) (h h' : Heap) : Prop := h.next ≤ h'.next ∧ ∀ j, j < s → h'.obj j = h.obj j

theorem Fr.refl (s : Nat) (h : Heap) : Fr s h h := ⟨Nat.le_refl _, fun _ _ => rfl⟩
theorem Fr.trans {s : Nat} {a b c : Heap} (x : Fr s a b) (y : Fr s b c) : Fr s a c := ⟨Nat.le_trans x.1 y.1, fun j hj => (y.2 j hj).trans (x.2 j hj)⟩

theorem add_w {s : Nat} {src : ByteArray} {k : Nat} {l : List Tok} {kind num : Int} {text : ByteArray} {size : Nat} {h : Heap} {Q : ARes → Prop} (hs : Sc h s src k l) (hl : l.length ≤ 100000) (hk : k ≤ 100000) (hz : size ≤ 100000)
  (hq : ∀ h', Sc h' s src (k + size) (l ++ [⟨kind, text, num, k⟩]) → Fr s h h' → Q (.ret (.tuple #[]) h')) :
  WCall Tryz.prog G X 50 [.pointer (some ⟨s, 0, none⟩), .int .i64 kind, .string text, .int .i64 num, .int .i64 size] h Q := by
 obtain ⟨hlt, b, n, es, ho, ht⟩ := hs
 have hlen := ht.len
 refine WCall.walk hX Tryz.func50 rfl rfl Tryz.ntmps50 rfl ?_
 refine QU hX ?_;refine WC.drawn (id := 0) hX (l := [⟨0, .pure, 0⟩, ⟨1, .pure, 0⟩, ⟨2, .pure, 2⟩, ⟨3, .pure, 6⟩, ⟨4, .read, 14⟩, ⟨5, .pure, 0⟩, ⟨6, .pure, 0⟩, ⟨7, .pure, 0⟩, ⟨8, .pure, 0⟩, ⟨9, .pure, 256⟩, ⟨10, .pure, 768⟩, ⟨11, .read, 1792⟩, ⟨12, .pure, 4064⟩, ⟨13, .alloc, 8160⟩, ⟨14, .heavy, 16382⟩, ⟨15, .pure, 32767⟩, ⟨16, .pure, 65535⟩, ⟨17, .heavy, 131071⟩]) (hw := ?_);refine QW (k := Qa ?_);refine QW (k := Qa ?_);refine QW (k := Qi ?_);refine QW (k := Qj ?_);refine QX (k := Qt ?_);refine QW (k := Qa ?_);refine QW (k := Qa ?_);refine QW (k := Qa ?_);refine QW (k := Qa ?_);refine QW (k := Qi ?_);refine QW (k := Qj ?_);refine QX (k := Qt ?_);refine QW (k := Qn ?_);refine WD.alloc (hw := Qz ?_);refine WD.heavy hX (hw := ?_)
 ·apply WS.append
  (· rfl); (· rfl); (· exact Wwev); (· exact Wwev); (· rfl); (· rfl); (· intro k hk; cases hk); (· exact fits_at rfl); (· decide); (· exact Wwobj); (· exact Wwlen); (· rfl); (· unfold room; omega); (· rfl)
  (· exact (ht.mono (h' := h.alloc _) (by simp) (fun j _ hj => obj_old (by omega) rfl)).at)
  intro h1 hn1 ho1 hf1
  have hos : h1.obj s = some (AObj.cells false [Value.string src, Value.int IntKind.i64 k, Value.slice b n es]) := by
   rw [hf1 s (by simp; omega) (by rcases ht with ⟨rfl, _⟩ | ⟨i, rfl, h1, _⟩ <;> intro off e <;> cases e; omega)]
   exact obj_old (by omega) ho
  refine QW (k := Qi ?_);refine QW (k := Qj ?_);refine WD.heavy hX (hw := Qv ?_);refine WD.nil (hq := ?_);refine QV hX ?_;refine QK (Qa ?_);refine QK (Qi ?_);refine QK (Qj ?_);refine QK (Qt ?_);refine QK (Qa ?_);refine QK (Qf ?_);refine QK (Qi ?_);refine QK (Qj ?_);refine QK (Qv ?_);refine QL ?_
  refine ⟨_, rfl, hq _ ⟨by simp [hn1]; omega, some ⟨h.next + 1, 0, none⟩, n + 1, 4, ?_, .inr ⟨h.next + 1, rfl, by omega, by simp [hn1], rfl, by simp [hlen], ?_⟩⟩ ⟨by simp [hn1]; omega, fun j hj => ?_⟩⟩
  ·rw [Int.natCast_add]; exact obj_put
  ·refine obj_else (by omega) (obj_else (by omega) ?_)
   simp only [Heap.alloc_next] at ho1
   rw [ho1]
   simp [cellsOf, Tok.cells]
  ·refine obj_else (by omega) (obj_else (by omega) ?_)
   rw [hf1 j (by simp; omega) (by rcases ht with ⟨rfl, _⟩ | ⟨i, rfl, h1, _⟩ <;> intro off e <;> cases e; omega)]
   exact obj_old (by omega) rfl

end Go.Proofs.ZL
end

section
open Go Go.Am
namespace Go.Proofs.ZL
set_option maxRecDepth 100000
set_option linter.unusedSimpArgs false
set_option linter.unusedVariables false
set_option maxHeartbeats 4000000

def words : List ByteArray := [(⟨#[97, 112, 112, 101, 110, 100]⟩ : ByteArray), (⟨#[98, 111, 111, 108]⟩ : ByteArray), (⟨#[98, 114, 101, 97, 107]⟩ : ByteArray), (⟨#[99, 97, 112]⟩ : ByteArray), (⟨#[99, 97, 115, 101]⟩ : ByteArray), (⟨#[99, 104, 97, 110]⟩ : ByteArray), (⟨#[99, 108, 111, 115, 101]⟩ : ByteArray), (⟨#[99, 111, 110, 116, 105, 110, 117, 101]⟩ : ByteArray), (⟨#[100, 101, 102, 97, 117, 108, 116]⟩ : ByteArray), (⟨#[100, 101, 102, 101, 114]⟩ : ByteArray), (⟨#[101, 108, 115, 101]⟩ : ByteArray), (⟨#[102, 97, 108, 108, 116, 104, 114, 111, 117, 103, 104]⟩ : ByteArray), (⟨#[102, 97, 108, 115, 101]⟩ : ByteArray), (⟨#[102, 111, 114]⟩ : ByteArray), (⟨#[102, 117, 110, 99]⟩ : ByteArray), (⟨#[103, 111]⟩ : ByteArray), (⟨#[105, 102]⟩ : ByteArray), (⟨#[105, 110, 116]⟩ : ByteArray), (⟨#[108, 101, 110]⟩ : ByteArray), (⟨#[109, 97, 107, 101]⟩ : ByteArray), (⟨#[110, 101, 119]⟩ : ByteArray), (⟨#[110, 105, 108]⟩ : ByteArray), (⟨#[112, 97, 110, 105, 99]⟩ : ByteArray), (⟨#[112, 114, 105, 110, 116]⟩ : ByteArray), (⟨#[114, 101, 99, 111, 118, 101, 114]⟩ : ByteArray), (⟨#[114, 101, 116, 117, 114, 110]⟩ : ByteArray), (⟨#[115, 101, 108, 101, 99, 116]⟩ : ByteArray), (⟨#[115, 116, 114, 105, 110, 103]⟩ : ByteArray), (⟨#[115, 116, 114, 117, 99, 116]⟩ : ByteArray), (⟨#[115, 119, 105, 116, 99, 104]⟩ : ByteArray), (⟨#[116, 114, 117, 101]⟩ : ByteArray), (⟨#[116, 121, 112, 101]⟩ : ByteArray), (⟨#[118, 97, 114]⟩ : ByteArray)]

def inS (l : List ByteArray) (s : ByteArray) : Bool := l.any fun w => decide (s = w)
theorem inS_iff {l : List ByteArray} {s : ByteArray} : inS l s = true ↔ s ∈ l := by
 unfold inS
 rw [List.any_eq_true]
 exact ⟨fun ⟨w, hw, he⟩ => by rw [decide_eq_true_eq] at he; rw [he]; exact hw, fun hm => ⟨s, hm, by simp⟩⟩

theorem ret_bool {Q : ARes → Prop} {h : Heap} {p b : Bool} (hb : b = p) (hq : Q (.ret (.bool p) h)) : Q (.ret (.bool b) h) := by rw [hb]; exact hq

theorem isWord_w {s : ByteArray} {h : Heap} {Q : ARes → Prop} (hq : Q (.ret (.bool (inS words s)) h)) : WCall Tryz.prog G X 82 [.string s] h Q := by
 refine WCall.walk hX Tryz.func82 rfl rfl Tryz.ntmps82 rfl ?_
 refine QN hX ?_;refine QK (Qb ?_);refine QL ?_;refine QU hX ?_;refine QN hX ?_;refine QK (Qa ?_);refine QL ?_;refine WC.block hX ?_;refine QU hX ?_;refine QN hX ?_;refine QK (QB ?_ ?_);intro hh;refine QK (Qb ?_);refine QQ hX ?_;refine UA ?_;refine QR hX ?_;refine QN hX ?_;refine QK (Qb ?_);refine QM ?_;rotate_left;intro hh;refine QK (Qb ?_);refine QP hX ?_;refine QN hX ?_;refine QK (QB ?_ ?_);intro hh;refine QK (Qb ?_);refine QQ hX ?_;refine UA ?_;refine QR hX ?_;refine QN hX ?_;refine QK (Qb ?_);refine QM ?_;rotate_left;intro hh;refine QK (Qb ?_);refine QP hX ?_;refine QN hX ?_;refine QK (QB ?_ ?_);intro hh;refine QK (Qb ?_);refine QQ hX ?_;refine UA ?_;refine QR hX ?_;refine QN hX ?_;refine QK (Qb ?_);refine QM ?_;rotate_left;intro hh;refine QK (Qb ?_);refine QP hX ?_;refine QN hX ?_;refine QK (QB ?_ ?_);intro hh;refine QK (Qb ?_);refine QQ hX ?_;refine UA ?_;refine QR hX ?_;refine QN hX ?_;refine QK (Qb ?_);refine QM ?_;rotate_left;intro hh;refine QK (Qb ?_);refine QP hX ?_;refine QN hX ?_;refine QK (QB ?_ ?_);intro hh;refine QK (Qb ?_);refine QQ hX ?_;refine UA ?_;refine QR hX ?_;refine QN hX ?_;refine QK (Qb ?_);refine QM ?_;rotate_left;intro hh;refine QK (Qb ?_);refine QP hX ?_;refine QN hX ?_;refine QK (QB ?_ ?_);intro hh;refine QK (Qb ?_);refine QQ hX ?_;refine UA ?_;refine QR hX ?_;refine QN hX ?_;refine QK (Qb ?_);refine QM ?_;rotate_left;intro hh;refine QK (Qb ?_);refine QP hX ?_;refine QN hX ?_;refine QK (QB ?_ ?_);intro hh;refine QK (Qb ?_);refine QQ hX ?_;refine UA ?_;refine QR hX ?_;refine QN hX ?_;refine QK (Qb ?_);refine QM ?_;rotate_left;intro hh;refine QK (Qb ?_);refine QP hX ?_;refine QN hX ?_;refine QK (QB ?_ ?_);intro hh;refine QK (Qb ?_);refine QQ hX ?_;refine UA ?_;refine QR hX ?_;refine QN hX ?_;refine QK (Qb ?_);refine QM ?_;rotate_left;intro hh;refine QK (Qb ?_);refine QP hX ?_;refine QN hX ?_;refine QK (QB ?_ ?_);intro hh;refine QK (Qb ?_);refine QQ hX ?_;refine UA ?_;refine QR hX ?_;refine QN hX ?_;refine QK (Qb ?_);refine QM ?_;rotate_left;intro hh;refine QK (Qb ?_);refine QP hX ?_;refine QN hX ?_;refine QK (QB ?_ ?_);intro hh;refine QK (Qb ?_);refine QQ hX ?_;refine UA ?_;refine QR hX ?_;refine QN hX ?_;refine QK (Qb ?_);refine QM ?_;rotate_left;intro hh;refine QK (Qb ?_);refine QP hX ?_;refine QN hX ?_;refine QK (QB ?_ ?_);intro hh;refine QK (Qb ?_);refine QQ hX ?_;refine UA ?_;refine QR hX ?_;refine QN hX ?_;refine QK (Qb ?_);refine QM ?_;rotate_left;intro hh;refine QK (Qb ?_);refine QP hX ?_;refine QN hX ?_;refine QK (QB ?_ ?_);intro hh;refine QK (Qb ?_);refine QQ hX ?_;refine UA ?_;refine QR hX ?_;refine QN hX ?_;refine QK (Qb ?_);refine QM ?_;rotate_left;intro hh;refine QK (Qb ?_);refine QP hX ?_;refine QN hX ?_;refine QK (QB ?_ ?_);intro hh;refine QK (Qb ?_);refine QQ hX ?_;refine UA ?_;refine QR hX ?_;refine QN hX ?_;refine QK (Qb ?_);refine QM ?_;rotate_left;intro hh;refine QK (Qb ?_);refine QP hX ?_;refine QN hX ?_;refine QK (QB ?_ ?_);intro hh;refine QK (Qb ?_);refine QQ hX ?_;refine UA ?_;refine QR hX ?_;refine QN hX ?_;refine QK (Qb ?_);refine QM ?_;rotate_left;intro hh;refine QK (Qb ?_);refine QP hX ?_;refine QN hX ?_;refine QK (QB ?_ ?_);intro hh;refine QK (Qb ?_);refine QQ hX ?_;refine UA ?_;refine QR hX ?_;refine QN hX ?_;refine QK (Qb ?_);refine QM ?_;rotate_left;intro hh;refine QK (Qb ?_);refine QP hX ?_;refine QN hX ?_;refine QK (QB ?_ ?_);intro hh;refine QK (Qb ?_);refine QQ hX ?_;refine UA ?_;refine QR hX ?_;refine QN hX ?_;refine QK (Qb ?_);refine QM ?_;rotate_left;intro hh;refine QK (Qb ?_);refine QP hX ?_;refine QN hX ?_;refine QK (QB ?_ ?_);intro hh;refine QK (Qb ?_);refine QQ hX ?_;refine UA ?_;refine QR hX ?_;refine QN hX ?_;refine QK (Qb ?_);refine QM ?_;rotate_left;intro hh;refine QK (Qb ?_);refine QP hX ?_;refine QN hX ?_;refine QK (QB ?_ ?_);intro hh;refine QK (Qb ?_);refine QQ hX ?_;refine UA ?_;refine QR hX ?_;refine QN hX ?_;refine QK (Qb ?_);refine QM ?_;rotate_left;intro hh;refine QK (Qb ?_);refine QP hX ?_;refine QN hX ?_;refine QK (QB ?_ ?_);intro hh;refine QK (Qb ?_);refine QQ hX ?_;refine UA ?_;refine QR hX ?_;refine QN hX ?_;refine QK (Qb ?_);refine QM ?_;rotate_left;intro hh;refine QK (Qb ?_);refine QP hX ?_;refine QN hX ?_;refine QK (QB ?_ ?_);intro hh;refine QK (Qb ?_);refine QQ hX ?_;refine UA ?_;refine QR hX ?_;refine QN hX ?_;refine QK (Qb ?_);refine QM ?_;rotate_left;intro hh;refine QK (Qb ?_);refine QP hX ?_;refine QN hX ?_;refine QK (QB ?_ ?_);intro hh;refine QK (Qb ?_);refine QQ hX ?_;refine UA ?_;refine QR hX ?_;refine QN hX ?_;refine QK (Qb ?_);refine QM ?_;rotate_left;intro hh;refine QK (Qb ?_);refine QP hX ?_;refine QN hX ?_;refine QK (QB ?_ ?_);intro hh;refine QK (Qb ?_);refine QQ hX ?_;refine UA ?_;refine QR hX ?_;refine QN hX ?_;refine QK (Qb ?_);refine QM ?_;rotate_left;intro hh;refine QK (Qb ?_);refine QP hX ?_;refine QN hX ?_;refine QK (QB ?_ ?_);intro hh;refine QK (Qb ?_);refine QQ hX ?_;refine UA ?_;refine QR hX ?_;refine QN hX ?_;refine QK (Qb ?_);refine QM ?_;rotate_left;intro hh;refine QK (Qb ?_);refine QP hX ?_;refine QN hX ?_;refine QK (QB ?_ ?_);intro hh;refine QK (Qb ?_);refine QQ hX ?_;refine UA ?_;refine QR hX ?_;refine QN hX ?_;refine QK (Qb ?_);refine QM ?_;rotate_left;intro hh;refine QK (Qb ?_);refine QP hX ?_;refine QN hX ?_;refine QK (QB ?_ ?_);intro hh;refine QK (Qb ?_);refine QQ hX ?_;refine UA ?_;refine QR hX ?_;refine QN hX ?_;refine QK (Qb ?_);refine QM ?_;rotate_left;intro hh;refine QK (Qb ?_);refine QP hX ?_;refine QN hX ?_;refine QK (QB ?_ ?_);intro hh;refine QK (Qb ?_);refine QQ hX ?_;refine UA ?_;refine QR hX ?_;refine QN hX ?_;refine QK (Qb ?_);refine QM ?_;rotate_left;intro hh;refine QK (Qb ?_);refine QP hX ?_;refine QN hX ?_;refine QK (QB ?_ ?_);intro hh;refine QK (Qb ?_);refine QQ hX ?_;refine UA ?_;refine QR hX ?_;refine QN hX ?_;refine QK (Qb ?_);refine QM ?_;rotate_left;intro hh;refine QK (Qb ?_);refine QP hX ?_;refine QN hX ?_;refine QK (QB ?_ ?_);intro hh;refine QK (Qb ?_);refine QQ hX ?_;refine UA ?_;refine QR hX ?_;refine QN hX ?_;refine QK (Qb ?_);refine QM ?_;rotate_left;intro hh;refine QK (Qb ?_);refine QP hX ?_;refine QN hX ?_;refine QK (QB ?_ ?_);intro hh;refine QK (Qb ?_);refine QQ hX ?_;refine UA ?_;refine QR hX ?_;refine QN hX ?_;refine QK (Qb ?_);refine QM ?_;rotate_left;intro hh;refine QK (Qb ?_);refine QP hX ?_;refine QN hX ?_;refine QK (QB ?_ ?_);intro hh;refine QK (Qb ?_);refine QQ hX ?_;refine UA ?_;refine QR hX ?_;refine QN hX ?_;refine QK (Qb ?_);refine QM ?_;rotate_left;intro hh;refine QK (Qb ?_);refine QP hX ?_;refine QN hX ?_;refine QK (QB ?_ ?_);intro hh;refine QK (Qb ?_);refine QQ hX ?_;refine UA ?_;refine QR hX ?_;refine QN hX ?_;refine QK (Qb ?_);refine QM ?_;rotate_left;intro hh;refine QK (Qb ?_);refine QP hX ?_;refine QN hX ?_;refine QK (QB ?_ ?_);intro hh;refine QK (Qb ?_);refine QQ hX ?_;refine UA ?_;refine QR hX ?_;refine QN hX ?_;refine QK (Qb ?_);refine QM ?_;rotate_left;intro hh;refine QK (Qb ?_);refine QP hX ?_;refine QV hX ?_;refine QK (QB ?_ ?_);intro hh;refine QK (Qb ?_);refine QQ hX ?_;refine QN hX ?_;refine QK (Qb ?_);refine QM ?_;rotate_left;intro hh;refine QK (Qb ?_);refine QP hX ?_;refine UA ?_;refine QN hX ?_;refine QK (Qb ?_);refine QM ?_;rotate_left
 all_goals (refine ⟨_, rfl, ret_bool ?_ hq⟩; symm; first
  | (subst hh; decide +kernel)
  | (rw [← Bool.not_eq_true, inS_iff]; intro hm; simp only [words, List.mem_cons, List.not_mem_nil, or_false] at hm; repeat (first | contradiction | (rcases hm with hm | hm))))

theorem index_w {j n : Nat} {l : List ByteArray} {s : ByteArray} {h : Heap} {Q : ARes → Prop} (ho : h.obj j = some (.cells false (l.map Value.string))) (hn : n = l.length) (hl : l.length ≤ 100000)
  (hq : ∀ r : Int, (0 ≤ r ↔ s ∈ l) → Q (.ret (.int .i64 r) h)) : WCall Tryz.prog G X 92 [.slice (some ⟨j, 0, none⟩) n 1, .string s] h Q := by
 refine WCall.walk hX Tryz.func92 rfl rfl Tryz.ntmps92 rfl ?_
 refine QN hX ?_;refine QK (Qb ?_);refine QL ?_;refine QU hX ?_;refine QN hX ?_;refine QK (Qa ?_);refine QK (Qs ?_);refine QK (Qa ?_);refine QL ?_;refine WC.block hX ?_
 refine WC.loopInv hX (m := fun i : Nat => l.length - i) (Inv := fun i e h' => e 0 = some (.slice (some ⟨j, 0, none⟩) n 1) ∧ e 1 = some (.string s) ∧ e 7 = some (.int .i64 n) ∧ e 8 = some (.int .i64 i) ∧ h' = h ∧ i ≤ l.length ∧ ∀ k, k < i → l[k]? ≠ some s) 0 ⟨rfl, rfl, rfl, rfl, rfl, by omega, by omega⟩ ?_
 intro i env h' ih ⟨e0, e1, e7, e8, eh, hle, hall⟩
 subst eh
 refine QN hX ?_;refine QK (QF ?_ ?_);intro hh;refine QL ?_;refine QU hX ?_;refine QR hX ?_;refine UA ?_;refine QU hX ?_;refine WC.block hX ?_;refine QN hX ?_;refine QK (Qa ?_);refine QK (Qb ?_);refine QO hX ?_;refine QK (Qa ?_);refine QK (Qa ?_);refine QK (Qa ?_);refine QK (Ql ?_);refine QK ?_;rotate_left;intro hh;refine QL ?_;refine QU hX ?_;refine QS hX ?_;refine WC.exit ?_;refine exit_here ?_;refine QN hX ?_;refine QK (Qb ?_);refine QM ?_;rotate_left
 ·have hi : i < l.length := by omega
  refine WS.loadS (v := .string l[i]) (hc := ?_) (hk := ?_)
  ·simp [hi]
  refine QK (QB ?_ ?_);intro hh;refine QQ hX ?_;refine QN hX ?_;refine QK (Qa ?_);refine QK (Qb ?_);refine QM ?_;rotate_left;intro hh;refine QP hX ?_;refine UA ?_;refine QV hX ?_;refine QK (Qf ?_);refine QK (Qa ?_);refine QL ?_;rotate_left
  ·refine ⟨_, rfl, hq _ ⟨fun _ => ?_, fun _ => by omega⟩⟩
   rw [hh]; exact List.getElem_mem hi
  ·refine ih (i + 1) _ _ (by omega) ⟨e0, e1, e7, rfl, rfl, hi, fun k hk => ?_⟩
   rcases Nat.lt_succ_iff_lt_or_eq.1 hk with hk | rfl
   ·exact hall k hk
   ·rw [List.getElem?_eq_getElem hi]; intro e; cases e; exact hh rfl
 ·refine ⟨_, rfl, hq _ ⟨fun hc => by omega, fun hm => ?_⟩⟩
  obtain ⟨k, hk, he⟩ := List.getElem_of_mem hm
  exact (hall k (by omega) (by rw [List.getElem?_eq_getElem hk, he])).elim

theorem contains_w {j n : Nat} {l : List ByteArray} {s : ByteArray} {h : Heap} {Q : ARes → Prop} (ho : h.obj j = some (.cells false (l.map Value.string))) (hn : n = l.length) (hl : l.length ≤ 100000)
  (hq : Q (.ret (.bool (inS l s)) h)) : WCall Tryz.prog G X 85 [.slice (some ⟨j, 0, none⟩) n 1, .string s] h Q := by
 refine WCall.walk hX Tryz.func85 rfl rfl Tryz.ntmps85 rfl ?_
 refine QN hX ?_;refine QK (Qb ?_);refine QO hX ?_;refine QK (Qa ?_);refine QK (Qa ?_);refine QK ?_
 ·refine QJ en92 ?_
  refine index_w ho hn hl fun r hr => ?_
  refine QK (QI ?_ ?_);intro hh;refine QK (Qb ?_);refine QM ?_;rotate_left;intro hh;refine QK (Qb ?_);refine QM ?_;rotate_left
  ·refine ⟨_, rfl, ret_bool ?_ hq⟩
   rw [(inS_iff).2 (hr.1 hh)]
  ·refine ⟨_, rfl, ret_bool ?_ hq⟩
   symm; rw [← Bool.not_eq_true, inS_iff, ← hr]; exact hh

end Go.Proofs.ZL
end

section
open Go Go.Am
namespace Go.Proofs.ZL
set_option maxRecDepth 100000
set_option linter.unusedSimpArgs false
set_option linter.unusedVariables false
set_option maxHeartbeats 4000000

def endWords : List ByteArray := [(⟨#[98, 114, 101, 97, 107]⟩ : ByteArray), (⟨#[99, 111, 110, 116, 105, 110, 117, 101]⟩ : ByteArray), (⟨#[102, 97, 108, 108, 116, 104, 114, 111, 117, 103, 104]⟩ : ByteArray), (⟨#[114, 101, 116, 117, 114, 110]⟩ : ByteArray), (⟨#[116, 114, 117, 101]⟩ : ByteArray), (⟨#[102, 97, 108, 115, 101]⟩ : ByteArray), (⟨#[110, 105, 108]⟩ : ByteArray), (⟨#[105, 110, 116]⟩ : ByteArray), (⟨#[98, 111, 111, 108]⟩ : ByteArray), (⟨#[115, 116, 114, 105, 110, 103]⟩ : ByteArray)]
def endMarks : List ByteArray := [(⟨#[43, 43]⟩ : ByteArray), (⟨#[45, 45]⟩ : ByteArray), (⟨#[41]⟩ : ByteArray), (⟨#[93]⟩ : ByteArray), (⟨#[125]⟩ : ByteArray)]

def endsTok (t : Tok) : Bool := if t.kind = 1 ∨ t.kind = 2 ∨ t.kind = 3 then true else if t.kind = 4 then inS endWords t.text else if t.kind = 5 then inS endMarks t.text else false
def endsL (l : List Tok) : Bool := match l.getLast? with
 | none => false
 | some t => endsTok t

theorem gr_fr {h h' : Heap} {s : Nat} (hs : s ≤ h.next) (g : Gr h h') : Fr s h h' := ⟨g.1, fun j hj => g.2 j (by omega)⟩
theorem Sc.grow {h h' : Heap} {s : Nat} {src : ByteArray} {k : Nat} {l : List Tok} (hs : Sc h s src k l) (g : Gr h h') : Sc h' s src k l := by
 obtain ⟨hlt, b, n, es, ho, ht⟩ := hs
 exact ⟨Nat.lt_of_lt_of_le hlt g.1, b, n, es, (g.2 s hlt).trans ho, ht.mono g.1 fun j _ hj => g.2 j hj⟩

theorem cells_at {l : List Tok} {i : Nat} {t : Tok} (h : l[i]? = some t) : ((cellsOf l).drop (i * 4)).take 4 = t.cells := by
 induction l generalizing i with
 | nil => simp at h
 | cons a l ih =>
  cases i with
  | zero => simp at h; subst h; simp [cellsOf, Tok.cells]
  | succ i =>
   simp at h
   rw [← ih h]
   simp only [cellsOf, List.flatMap_cons]
   rw [List.drop_append]
   have : a.cells.length = 4 := rfl
   rw [List.drop_of_length_le (by rw [this]; omega), List.nil_append]
   rw [this, show (i + 1) * 4 - 4 = i * 4 by omega]

theorem ends_w {s : Nat} {src : ByteArray} {k : Nat} {l : List Tok} {h : Heap} {Q : ARes → Prop} (hs : Sc h s src k l) (hl : l.length ≤ 100000)
  (hq : ∀ h', Gr h h' → Q (.ret (.bool (endsL l)) h')) : WCall Tryz.prog G X 70 [.pointer (some ⟨s, 0, none⟩)] h Q := by
 obtain ⟨hlt, b, n, es, ho, ht⟩ := hs
 have hlen := ht.len
 refine WCall.walk hX Tryz.func70 rfl rfl Tryz.ntmps70 rfl ?_
 refine QN hX ?_;refine QK (Qb ?_);refine QL ?_;refine QU hX ?_;refine QN hX ?_;refine QK (Qa ?_);refine QK (Qi ?_);refine QK (Qj ?_);refine QK (Qt ?_);refine QK (Qs ?_);refine QK (QD ?_ ?_);intro hh;refine QQ hX ?_;refine QN hX ?_;refine QK (Qb ?_);refine QM ?_;rotate_left;intro hh;refine QP hX ?_;refine UA ?_;refine QU hX ?_;refine QU hX ?_;refine WC.drawn (id := 3) hX (l := [⟨0, .pure, 0⟩, ⟨1, .pure, 1⟩, ⟨2, .pure, 3⟩, ⟨3, .read, 7⟩, ⟨4, .pure, 0⟩, ⟨5, .pure, 16⟩, ⟨6, .pure, 48⟩, ⟨7, .read, 112⟩, ⟨8, .read, 240⟩, ⟨9, .pure, 496⟩, ⟨10, .pure, 1023⟩, ⟨11, .read, 2047⟩, ⟨12, .alloc, 0⟩, ⟨13, .heavy, 8191⟩]) (hw := ?_);refine QW (k := Qa ?_);refine QW (k := Qi ?_);refine QW (k := Qj ?_);refine QX (k := Qt ?_);refine QW (k := Qa ?_);refine QW (k := Qi ?_);refine QW (k := Qj ?_);refine QX (k := Qt ?_);refine QX (k := Qs ?_);refine QW (k := Qg ?_);refine WD.pure (hw := ?_);rotate_left
 ·have : l = [] := List.eq_nil_of_length_eq_zero (by omega)
  subst this
  exact ⟨_, rfl, hq _ (Gr.refl _)⟩
 ·rcases ht with ⟨_, rfl, _, _⟩ | ⟨i, rfl, h1, h2, rfl, _, h3⟩
  ·omega
  have hne : l ≠ [] := by intro e; subst e; simp at hlen; omega
  obtain ⟨t, hlast⟩ : ∃ t, l.getLast? = some t := ⟨l.getLast hne, List.getLast?_eq_some_getLast hne⟩
  have hget : l[n - 1]? = some t := by rw [hlen, ← List.getLast?_eq_getElem?]; exact hlast
  have hq' : ∀ h', Gr h h' → Q (.ret (.bool (endsTok t)) h') := by
   intro h' g; have := hq h' g; unfold endsL at this; rw [hlast] at this; exact this
  refine WS.indexAddr (hk := ?_);refine WD.read (hw := ?_)
  refine WS.loadG (vs := t.cells) (hc := ?_) (hv' := ?_) (hk := ?_)
  (· rw [cellsOf_length]; omega); (· rw [show 0 + ((n : Int) - 1).toNat * 4 = (n - 1) * 4 by omega, cells_at hget]; rfl)
  refine WD.alloc (hw := Qw ?_);refine WD.heavy hX (hw := Qv ?_);refine WD.nil (hq := ?_);refine QN hX ?_;refine QK (Qj ?_);refine QK (Qt ?_);refine QL ?_;refine WC.block hX ?_;refine QU hX ?_;refine QN hX ?_;refine QK (QD ?_ ?_);intro hh;refine QK (Qb ?_);refine QQ hX ?_;refine UA ?_;refine QR hX ?_;refine QN hX ?_;refine QK (Qb ?_);refine QM ?_;rotate_left;intro hh;refine QK (Qb ?_);refine QP hX ?_;refine QN hX ?_;refine QK (QD ?_ ?_);intro hh;refine QK (Qb ?_);refine QQ hX ?_;refine UA ?_;refine QR hX ?_;refine QN hX ?_;refine QK (Qb ?_);refine QM ?_;rotate_left;intro hh;refine QK (Qb ?_);refine QP hX ?_;refine QV hX ?_;refine QK (QD ?_ ?_);intro hh;refine QK (Qb ?_);refine QQ hX ?_;refine QN hX ?_;refine QK (Qb ?_);refine QM ?_;rotate_left;intro hh;refine QK (Qb ?_);refine QP hX ?_;refine QN hX ?_;refine QK (QD ?_ ?_);intro hh;refine QK (Qb ?_);refine QQ hX ?_;refine QN hX ?_;refine QK (Qy ?_);refine QK (Qj ?_);refine QK (Qt ?_);refine QK ?_;rotate_left;intro hh;refine QK (Qb ?_);refine QP hX ?_;refine QN hX ?_;refine QK (QD ?_ ?_);intro hh;refine QK (Qb ?_);refine QQ hX ?_;refine QN hX ?_;refine QK (Qy ?_);refine QK (Qj ?_);refine QK (Qt ?_);refine QK ?_;rotate_left;intro hh;refine QK (Qb ?_);refine QP hX ?_;refine UA ?_;refine QN hX ?_;refine QK (Qb ?_);refine QM ?_;rotate_left
  ·refine ⟨_, rfl, ret_bool ?_ (hq' _ Wwgr)⟩
   simp [endsTok, hh]
  ·refine ⟨_, rfl, ret_bool ?_ (hq' _ Wwgr)⟩
   simp [endsTok, hh]
  ·refine ⟨_, rfl, ret_bool ?_ (hq' _ Wwgr)⟩
   simp [endsTok, hh]
  ·skip
   refine QJ en85 ?_
   refine contains_w (l := endWords) obj_new rfl (by decide) ?_
   refine QK (Qb ?_);refine QM ?_
   refine ⟨_, rfl, ret_bool ?_ (hq' _ Wwgr)⟩
   simp [endsTok, hh]
  ·skip
   refine QJ en85 ?_
   refine contains_w (l := endMarks) obj_new rfl (by decide) ?_
   refine QK (Qb ?_);refine QM ?_
   refine ⟨_, rfl, ret_bool ?_ (hq' _ Wwgr)⟩
   simp [endsTok, hh]
  ·refine ⟨_, rfl, ret_bool ?_ (hq' _ Wwgr)⟩
   simp [endsTok, *]

def lineL (k : Nat) (l : List Tok) : List Tok := if endsL l then l ++ [⟨5, (⟨#[59]⟩ : ByteArray), 1, k⟩] else l

theorem line_w {s : Nat} {src : ByteArray} {k : Nat} {l : List Tok} {h : Heap} {Q : ARes → Prop} (hs : Sc h s src k l) (hl : l.length ≤ 100000) (hk : k ≤ 100000)
  (hq : ∀ h', Sc h' s src k (lineL k l) → Fr s h h' → Q (.ret (.tuple #[]) h')) : WCall Tryz.prog G X 49 [.pointer (some ⟨s, 0, none⟩)] h Q := by
 refine WCall.walk hX Tryz.func49 rfl rfl Tryz.ntmps49 rfl ?_
 refine QN hX ?_;refine QK (Qa ?_);refine QK ?_
 refine QJ en70 ?_
 refine ends_w hs hl fun h1 g => ?_
 have fr1 : Fr s h h1 := gr_fr (by have := hs.1; omega) g
 refine QL ?_;refine WC.condB hX (h1 := ?_) (h2 := ?_);intro hh;refine QV hX ?_;refine QK (Qa ?_);refine QK ?_;rotate_left;intro hh;refine UA ?_;rotate_left
 ·refine QJ en50 ?_
  refine add_w (size := 0) (hs.grow g) hl hk (by omega) fun h2 hs2 fr2 => ?_
  refine QL ?_
  refine ⟨_, rfl, hq _ ?_ (fr1.trans fr2)⟩
  unfold lineL
  rw [if_pos hh]
  exact hs2
 ·refine ⟨_, rfl, hq _ ?_ fr1⟩
  unfold lineL
  rw [hh]
  exact hs.grow g

end Go.Proofs.ZL
end
