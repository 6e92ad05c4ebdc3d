/- The lexer, first part. -/
import Derived.Test.YtpdkdgfknanipaaGreatDoorZA4
import Derived.Test.YtpdkdgfknanipaaGreatDoorChecked
import Derived.Lib.ItoaNum
import Derived.Lib.Repeat
import Derived.Lib.Bytealg
section
open Go Go.Am
namespace Go.Proofs.ZL
set_option maxRecDepth 100000
set_option linter.unusedSimpArgs false
set_option linter.unusedVariables false
set_option maxHeartbeats 4000000
variable {h : aA} {Q : bR → Prop} {p : Nat} {hd : Bool} {src : ByteArray}
def szs : List Nat := [1, 1, 1, 1, 1, 1, 1, 4, 4, 1, 1, 1, 1, 2, 2, 1, 1, 1, 1, 1, 1, 1, 1, 1, 7, 7, 2, 2, 1, 1, 1, 1, 1, 1, 1, 1, 1, 1, 5, 5, 4, 4, 1, 1, 1, 1, 1, 1, 2, 2, 3, 3, 1, 1, 1, 1, 1, 1, 1, 2, 2, 1, 1, 1, 1, 1, 1, 1, 1, 1, 1, 1, 1, 1, 3, 3, 1, 1, 1, 1, 1, 1, 1, 1, 1, 1, 4, 4, 1, 1, 3, 3, 1, 1, 1, 1, 1, 1, 1, 1, 1, 1, 1, 1, 1, 1, 1, 1, 1, 1, 1, 1, 1, 1, 1, 1, 1, 1, 1, 1, 1, 1, 1, 1, 1, 1, 1, 1, 1, 1, 1, 1, 1, 1, 1, 1, 0, 0, 0, 1, 1, 1, 2, 2, 2, 2, 3, 3, 1, 1, 5, 5, 1, 1, 1, 2, 2, 1, 1, 2, 1, 1, 1, 24, 1, 1, 1, 1, 1, 1, 1, 1, 1, 1, 1, 1, 3, 1, 1, 1, 1, 20, 65, 1, 1, 1, 1, 1, 1, 1, 1, 1, 1, 256, 256, 1, 256, 257, 257, 1, 1, 1, 1, 1, 1, 1, 1, 1, 1, 1, 1, 1, 1, 1, 1, 1, 1, 1, 1, 1, 2, 2, 1, 1, 5, 5, 262, 262, 1, 1, 1, 1, 1, 1, 1, 1, 3, 3, 1, 32, 64, 1, 1, 1, 1, 1, 1, 1, 256, 258, 258, 1, 1, 1, 1, 1, 1, 1, 1, 1, 1, 1, 1, 1, 4, 4, 0, 0, 0, 1, 1, 1, 1, 1, 11, 11, 1, 1, 2, 2, 1, 1, 1, 1, 1, 1, 1, 1, 1, 1, 1, 1, 1, 1, 1, 1, 1, 1, 1, 1, 5, 5, 1, 1, 4, 4, 1]
def aNm : List (List (Option Nat)) := [[], [], [], [], [], [], [], [some 0, some 1, some 2, some 3], [some 0, some 1, some 2, some 3], [], [], [], [], [some 0, some 1], [some 0, some 1], [], [], [], [some 0], [some 0], [], [], [], [], [some 0, some 1, some 2, some 3, some 4, some 5, some 6], [some 0, some 1, some 2, some 3, some 4, some 5, some 6], [some 0, some 1], [some 0, some 1], [], [], [], [], [], [], [], [], [], [], [some 0, some 1, some 2, some 3, some 4], [some 0, some 1, some 2, some 3, some 4], [some 0, some 1, some 2, some 3], [some 0, some 1, some 2, some 3], [], [], [], [], [], [], [some 0, some 1], [some 0, some 1], [some 0, some 2], [some 0, some 2], [], [], [], [], [], [], [], [some 0, some 1], [some 0, some 1], [], [], [], [], [], [], [], [], [], [], [], [], [], [some 0, some 1, some 2], [some 0, some 1, some 2], [], [some 0], [some 0], [], [], [], [], [some 0], [some 0], [], [some 0, some 1, some 2, some 3], [some 0, some 1, some 2, some 3], [], [], [some 0, some 1, some 2], [some 0, some 1, some 2], [], [], [], [], [], [], [], [], [], [], [], [], [], [], [], [], [], [], [], [], [], [], [], [some 0], [some 0], [], [], [], [], [], [], [], [], [], [], [], [], [], [], [], [], [], [], [], [], [], [], [], [none, some 0], [none, some 0], [some 0, some 1], [some 0, some 1], [none, some 0], [none, some 0], [none, some 0, some 1], [none, some 0, some 1], [], [], [some 0, some 3, some 4], [some 0, some 3, some 4], [], [], [], [some 0, some 1], [some 0, some 1], [], [], [], [], [], [], [], [], [], [], [], [], [], [], [], [], [], [], [], [], [], [], [], [], [], [], [], [], [], [], [], [], [], [], [], [], [], [], [], [], [some 0, some 256], [some 0, some 256], [], [], [], [], [], [], [], [], [], [], [], [], [], [], [], [], [], [], [], [], [], [some 0, some 1], [some 0, some 1], [], [], [some 0, some 1, some 2, some 3, some 4], [some 0, some 1, some 2, some 3, some 4], [some 0, some 5, some 6], [some 0, some 5, some 6], [], [], [], [], [], [], [], [], [some 0, some 1, some 2], [some 0, some 1, some 2], [], [], [], [], [], [], [], [], [], [], [], [some 0, some 1, some 257], [some 0, some 1, some 257], [], [], [], [], [], [some 0], [some 0], [], [], [], [], [], [], [some 0, some 1, some 2, some 3], [some 0, some 1, some 2, some 3], [], [none], [none], [], [], [], [], [], [some 0, some 1, some 2, some 3, some 4, some 5, some 6, some 7, some 8, some 9, some 10], [some 0, some 1, some 2, some 3, some 4, some 5, some 6, some 7, some 8, some 9, some 10], [], [], [some 0, some 1], [some 0, some 1], [], [], [], [], [], [], [], [], [], [], [], [], [some 0], [some 0], [], [], [], [], [], [], [some 0, some 1, some 2, some 3, some 4], [some 0, some 1, some 2, some 3, some 4], [], [], [some 0, some 1, some 2, some 3], [some 0, some 1, some 2, some 3], []]
def fits : List (Option (Nat × Nat)) := [none, some (1, 8), some (1, 8), some (1, 8), some (1, 1), some (1, 1), some (1, 1), some (4, 24), some (4, 24), some (1, 16), some (1, 16), some (1, 16), some (1, 8), some (2, 24), some (2, 24), some (1, 8), some (1, 8), some (1, 8), some (1, 8), some (1, 8), some (1, 16), some (1, 4), some (1, 8), some (1, 24), some (7, 88), some (7, 88), some (2, 16), some (2, 16), none, some (1, 8), some (1, 8), some (1, 8), some (1, 8), some (1, 8), some (1, 24), none, some (1, 8), some (1, 8), some (5, 48), some (5, 48), some (4, 40), some (4, 40), some (1, 8), some (1, 8), some (1, 8), some (1, 8), some (1, 8), some (1, 24), some (2, 32), some (2, 32), some (3, 40), some (3, 40), some (1, 8), some (1, 8), some (1, 8), some (1, 16), some (1, 16), none, some (1, 8), some (2, 24), some (2, 24), some (1, 8), some (1, 8), some (1, 8), some (1, 8), none, some (1, 8), some (1, 8), some (1, 8), some (1, 8), some (1, 8), some (1, 8), some (1, 8), some (1, 8), some (3, 48), some (3, 48), some (1, 8), some (1, 8), some (1, 8), some (1, 8), none, some (1, 8), none, some (1, 16), some (1, 16), some (1, 8), some (4, 40), some (4, 40), some (1, 8), some (1, 8), some (3, 24), some (3, 24), some (1, 8), some (1, 16), some (1, 16), some (1, 8), some (1, 1), some (1, 8), some (1, 8), some (1, 8), some (1, 8), some (1, 8), some (1, 8), some (1, 8), some (1, 8), some (1, 8), some (1, 8), some (1, 8), some (1, 8), some (1, 24), none, some (1, 8), some (1, 8), some (1, 8), some (1, 8), some (1, 8), some (1, 8), some (1, 8), some (1, 8), some (1, 8), some (1, 8), some (1, 16), none, some (1, 8), some (1, 16), some (1, 16), some (1, 24), some (1, 8), some (1, 8), some (1, 8), some (1, 8), some (1, 8), some (1, 8), some (1, 8), some (1, 8), some (1, 8), none, none, none, some (1, 4), some (1, 4), some (1, 4), some (2, 8), some (2, 8), some (2, 8), some (2, 8), some (3, 12), some (3, 12), some (1, 16), some (1, 16), some (5, 56), some (5, 56), some (1, 8), some (1, 8), some (1, 8), some (2, 32), some (2, 32), none, some (1, 8), some (2, 16), some (1, 8), some (1, 8), some (1, 16), some (24, 24), some (1, 8), some (1, 8), some (1, 8), none, some (1, 8), some (1, 8), some (1, 8), some (1, 8), some (1, 8), none, some (1, 8), some (1, 8), some (3, 48), some (1, 8), some (1, 8), some (1, 8), some (1, 8), some (20, 160), some (65, 65), some (1, 8), some (1, 8), some (1, 8), some (1, 8), some (1, 8), some (1, 8), some (1, 8), some (1, 8), some (1, 8), some (1, 8), some (256, 256), some (256, 256), some (1, 8), some (256, 6144), some (257, 6168), some (257, 6168), some (1, 8), some (1, 8), some (1, 8), some (1, 8), some (1, 8), none, some (1, 8), none, some (1, 8), some (1, 8), none, some (1, 8), some (1, 8), some (1, 8), some (1, 8), some (1, 8), some (1, 8), some (1, 8), some (1, 8), some (1, 8), some (1, 8), some (2, 24), some (2, 24), some (1, 8), some (1, 24), some (5, 72), some (5, 72), some (262, 336), some (262, 336), some (1, 8), some (1, 8), some (1, 8), some (1, 8), some (1, 8), some (1, 8), none, some (1, 8), some (3, 48), some (3, 48), some (1, 8), some (32, 32), some (64, 64), some (1, 8), some (1, 8), some (1, 8), some (1, 8), some (1, 8), some (1, 8), some (1, 24), some (256, 2048), some (258, 2088), some (258, 2088), some (1, 8), none, some (1, 8), some (1, 8), some (1, 8), some (1, 16), some (1, 16), some (1, 8), some (1, 8), some (1, 8), some (1, 8), some (1, 8), some (1, 8), some (4, 40), some (4, 40), none, none, none, some (1, 8), some (1, 1), some (1, 8), some (1, 4), some (1, 4), some (11, 48), some (11, 48), some (1, 8), some (1, 8), some (2, 24), some (2, 24), some (1, 8), some (1, 8), some (1, 24), some (1, 8), some (1, 16), some (1, 16), some (1, 16), some (1, 16), some (1, 8), none, some (1, 8), none, some (1, 16), some (1, 16), some (1, 8), some (1, 8), some (1, 8), some (1, 8), some (1, 8), some (1, 2), some (5, 16), some (5, 16), some (1, 24), some (1, 4), some (4, 16), some (4, 16), some (1, 8)]

theorem aDq {α β : Type} {f : Nat → α} {g : β → α} {l : List β} (hl : (List.range l.length).map f = l.map g) {t : Nat} {m : β} (h : l[t]? = some m) : f t = g m := by
 have ht : t < l.length := by
  rcases Nat.lt_or_ge t l.length with h' | h'
  ·exact h'
  ·rw [List.getElem?_eq_none h'] at h; cases h
 have h1 : ((List.range l.length).map f)[t]? = some (f t) := by
  rw [List.getElem?_map, List.getElem?_range ht]; rfl
 rw [hl, List.getElem?_map, h] at h1
 exact (Option.some.inj h1).symm

theorem aNx : (List.range szs.length).map (dF Tryz.prog) = szs.map some := by decide +kernel
theorem aH5 : (List.range aNm.length).map (kA Tryz.prog) = aNm.map id := by decide +kernel
theorem aHk : (List.range fits.length).map (dY Tryz.prog) = fits.map id := by decide +kernel

theorem fF {t m : Nat} (h : szs[t]? = some m) : dF Tryz.prog t = some m := aDq aNx h
theorem zQ {t f o : Nat} {l : List (Option Nat)} (h : aNm[t]? = some l) (h2 : l[f]? = some (some o)) : (kA Tryz.prog t)[f]? = some (some o) := by
 rw [aDq aH5 h]; exact h2
theorem cE {t m b : Nat} (h : fits[t]? = some (some (m, b))) : dY Tryz.prog t = some (m, b) := aDq aHk h
def zD : Value → Option Int
 | .iface t (.agg cs) =>
  if t = 78 then match cs.toList with
   | [.int .i64 p] => some p
   | _ => none
  else if t = 156 then match cs.toList with
   | [.string _, .iface u (.agg ds)] => if u = 78 then match ds.toList with
     | [.int .i64 p] => some p
     | _ => none
    else none
   | _ => none
  else none
 | _ => none

def iW (p : Int) (w : ByteArray) : Value := .agg #[.int .i64 p, .iface 162 (.string w)]
def tC : Value → Option (Int × ByteArray)
 | .iface t (.agg cs) =>
  if t = 84 then match cs.toList with
   | [.iface u (.agg ds)] => if u = 60 then match ds.toList with
     | [.int .i64 p, .iface q (.string w)] => if q = 162 then some (p, w) else none
     | _ => none
    else none
   | _ => none
  else none
 | _ => none

noncomputable def asO : bK → List Value → aA → Option bR := fun _ args h =>
 match args with
 | [e, .iface t (.pointer (some ⟨i, 0, none⟩))] =>
  if t = 79 then match zD e with
   | some p => (fW Tryz.prog 78 i 0 (.agg #[.int .i64 p]) h).map fun h' => .ret (.bool true) h'
   | none => none
  else if t = 62 then match e with
   | .nilIface => some (.ret (.bool false) h)
   | e => match tC e with
    | some (p, w) => (fW Tryz.prog 60 i 0 (iW p w) h).map fun h' => .ret (.bool true) h'
    | none => none
  else none
 | _ => none

def aE1 : List PanicEntry → Option (Int × ByteArray)
 | [⟨.iface u (.agg ds), false, false⟩] => if u = 60 then match ds.toList with
   | [.int .i64 p, .iface q (.string w)] => if q = 162 then some (p, w) else none
   | _ => none
  else none
 | _ => none

def aNs : Code → Code
 | .seq a _ => a
 | c => c
def aDm : Code → Code
 | .seq _ b => b
 | c => c
def aDk : Code → Array Oper
 | .region _ ops _ => ops
 | _ => #[]
def aDs : Code → List (Nat × Array Oper)
 | .seq (.region id ops _) c => (id, ops) :: aDs c
 | _ => []
def aOr : Code → Code
 | .cond _ a _ => a
 | c => c
noncomputable def pK : Array Oper := aDk (aOr (aDm (aDm ((Tryz.f50).body.getD .skip))))
def nO (v1 v2 : Value) (i : Nat) : Env := fun t => if t = 0 then some v1 else if t = 1 then some v2 else if t = 2 then some (.pointer (some ⟨i, 0, none⟩)) else none
noncomputable def rA : rQ := fun C v1 v2 ch h => match aE1 ch with
 | some (p, w) => match lO Tryz.prog 0 C (Tryz.f50).ntmps pK true (nO v1 v2 h.next) (h.alloc (.cells false [.int .i64 p, .iface 162 (.string w)])) with
  | some (.ok _ h2) => some h2
  | _ => none
 | none => none
theorem yI : ∀ C C', bK.le C C' → ∀ v1 v2 ch h h4, rA C v1 v2 ch h = some h4 → rA C' v1 v2 ch h = some h4 := by
 intro C C' hl v1 v2 ch h h4 hc
 unfold rA at hc ⊢
 split at hc
 ·rename_i p w hp
  split at hc
  ·rename_i e h2 hr
   rw [jU hl _ _ _ _ _ _ hr]; exact hc
  ·cases hc
 ·cases hc
noncomputable def l6 : Code := (Tryz.f27).body.getD .skip
noncomputable def aEl : bK → List Value → aA → Option bR :=
 lW Tryz.prog 0 (Tryz.f27).ntmps (Tryz.f27).results.toList (aDk (aNs l6)) 2 3 5 50 (aDs (aDm (aDm l6))) rA

def wE : bK → List Value → aA → Option bR := fun _ args h => match args with
 | [.pointer (some ⟨i, 0, none⟩)] => match h.obj i with
  | some (.cells false (.pointer none :: r)) => if h.ty i = some 51 ∧ r.length = 2 then some (.ret (.tuple #[]) (h.put i (some (.cells false (.pointer (some ⟨i, 0, none⟩) :: r))))) else none
  | some (.cells false (.pointer (some ⟨j, 0, none⟩) :: _)) => if j = i ∧ h.ty i = some 51 then some (.ret (.tuple #[]) h) else none
  | _ => none
 | _ => none
def aB4 : bK → List Value → aA → Option bR := fun _ args h => match args with
 | [.pointer (some ⟨i, 0, none⟩)] => match h.obj i with
  | some (.cells false (_ :: .slice none 0 0 :: _)) => if h.ty i = some 51 then some (.ret (.string ⟨#[]⟩) h) else none
  | some (.cells false (_ :: .slice (some ⟨j, 0, none⟩) n es :: _)) =>
   if 0 < n ∧ es = 1 ∧ n ≤ 140737488355328 ∧ h.ty i = some 51 ∧ h.ty j = some 5 then match h.obj j with
    | some (.cells false _) => match h.cells j 0 n with
     | some vs => match cP vs with
      | some ns => if ns.all (fun n => decide (0 ≤ n ∧ n < 256)) then some (.ret (.string ⟨(ns.map fun n => UInt8.ofNat n.toNat).toArray⟩) (h.put j none)) else none
      | none => none
     | none => none
    | _ => none
   else none
  | _ => none
 | _ => none
def aBd : bK → List Value → aA → Option bR := fun _ args h => match args with
 | [.int .i64 n] => if 0 ≤ n ∧ n < 1000000000000000000 then some (.ret (.string ⟨(Lib.itoa n).toArray⟩) h) else none
 | _ => none
def aIi : bK → List Value → aA → Option bR := fun _ args h => match args with
 | [.string s, .int .i64 c] => if 0 ≤ c ∧ c ≤ 1000000000000 ∧ s.size = 1 then some (.ret (.string ⟨(Lib.repeatL s.data.toList c.toNat).toArray⟩) h) else none
 | _ => none
def wF : bK → List Value → aA → Option bR := fun _ args h => match args with
 | [.string s, .string ⟨⟨[c]⟩⟩] => some (.ret (.int .i64 (Lib.countByte s.data.toList c)) h)
 | _ => none
def qU : bK → List Value → aA → Option bR := fun C args h => match args with
 | [.agg cs] => if cs.size = 7 then
   match C 22 [.pointer (some ⟨h.next + 1, 0, none⟩), .agg cs] (((h.alloc (.cells false cs.toList)).alloc (.cells false [.pointer none, .slice none 0 0, .int .i64 0])).note (h.next + 1) (some 51)) with
   | some (.ret _ h3) => match C 23 [.pointer (some ⟨h.next + 1, 0, none⟩)] h3 with
    | some (.ret v h4) => some (.ret v h4)
    | _ => none
   | _ => none
  else none
 | _ => none
def uP : bK → List Value → aA → Option bR := fun C args h => match args with
 | [.pointer (some ⟨i, 0, none⟩), .func (.func g) ⟨[r]⟩ ⟨[]⟩] => if g = 120 then match h.obj i with
  | some (.cells false (.int .u32 0 :: .int .i32 0 :: cs)) => match C g [r] (h.put i (some (.cells false (.int .u32 0 :: .int .i32 1 :: cs)))) with
   | some (.ret _ h2) => match h2.obj i with
    | some (.cells false (.int .u32 0 :: .int .i32 1 :: cs2)) => some (.ret (.tuple #[]) (h2.put i (some (.cells false (.int .u32 1 :: .int .i32 0 :: cs2)))))
    | _ => none
   | _ => none
  | _ => none
  else none
 | _ => none
theorem aHg {C C' : bK} (hl : bK.le C C') {args : List Value} {h : aA} {r : bR} (hr : qU C args h = some r) : qU C' args h = some r := by
 unfold qU at hr ⊢
 split at hr
 case h_2 => cases hr
 split at hr
 case isFalse => cases hr
 rename_i hs
 rw [if_pos hs]
 split at hr
 case h_2 => cases hr
 rename_i h1
 rw [hl _ _ _ _ h1]
 simp only
 split at hr
 case h_2 => cases hr
 rename_i h2
 rw [hl _ _ _ _ h2]
 exact hr
theorem aH6 {C C' : bK} (hl : bK.le C C') {args : List Value} {h : aA} {r : bR} (hr : uP C args h = some r) : uP C' args h = some r := by
 unfold uP at hr ⊢
 split at hr
 case h_2 => cases hr
 split at hr
 case isFalse => cases hr
 rename_i hs
 rw [if_pos hs]
 split at hr
 case h_2 => cases hr
 split at hr
 case h_2 => cases hr
 rename_i h1
 rw [hl _ _ _ _ h1]
 exact hr

noncomputable def X : eQ := fun f => if f = 28 then some asO else if f = 27 then some aEl
 else if f = 96 then some wE else if f = 23 then some aB4 else if f = 56 then some aBd
 else if f = 124 then some aIi else if f = 312 then some wF else if f = 10 then some qU else if f = 119 then some uP else none
theorem hX : bW X := ⟨fun f o h => by
 unfold X at h
 repeat' split at h
 all_goals (cases h; try intro C C' hl args hp r hr)
 ·exact hr
 ·exact aE6 hl (yI _ _ hl) hr
 ·exact hr
 ·exact hr
 ·exact hr
 ·exact hr
 ·exact hr
 ·exact aHg hl hr
 ·exact aH6 hl hr⟩
abbrev G : Nat := 0

theorem Wk {P : Program} {n : Nat} {f : FuncId} {fn : Func} {c : Code} {args : List Value} (hf : P.funcs[f]? = some fn) (hn : fn.ntmps = n) (hb : fn.body = some c := by exact rfl) (hx : X f = none := by exact rfl) (hl : Nat.ble args.length n = true := by exact rfl) (w : WC P G X n c (jL args) h (fun e h => ∃ vs, bV P e h fn.results.toList = some vs ∧ Q (.ret (answer vs) h)) (fun _ _ _ => False)
 (fun e h => ∃ vs, bV P e h fn.results.toList = some vs ∧ Q (.ret (answer vs) h)) fun ch h => Q (.panic ch h)) : aS P G X f args h Q := aS.walk hX hf hb hx hn hl w
section
variable {P : Program} {n : Nat} {N : Env → aA → Prop} {E : Nat → Env → aA → Prop} {R : Env → aA → Prop} {F : List PanicEntry → aA → Prop} {env : Env} {h : aA} {ops o2 : Array Oper} {c : Operand} {a b : Code} {id i iA : Nat} {o : Oper} {l : List Oper} {m : List cQ} {pend : List Pe}
theorem QN (hw : WR P G X n ops ops.toList env h (fun e h => WC P G X n b e h N E R F) F) : WC P G X n (.seq (.region id ops false) b) env h N E R F := Go.Am.QN hX hw
theorem QO (hw : WR P G X n o2 o2.toList env h (fun e h => WC P G X n b e h N E R F) F) : WR P G X n ops [] env h (fun e h => WC P G X n (.seq (.region id o2 false) b) e h N E R F) F := Go.Am.QO hX hw
theorem QP (hw : WC P G X n b env h N E R F) (hc : aJ G env c = some (.bool false) := by first | rfl | assumption) : WR P G X n ops [] env h (fun e h => WC P G X n (.cond c a b) e h N E R F) F := Go.Am.QP hX hw hc
theorem QQ (hw : WC P G X n a env h N E R F) (hc : aJ G env c = some (.bool true) := by first | rfl | assumption) : WR P G X n ops [] env h (fun e h => WC P G X n (.cond c a b) e h N E R F) F := Go.Am.QQ hX hw hc
theorem QR (hw : WC P G X n a env h N E R F) (hc : aJ G env c = some (.bool true) := by first | rfl | assumption) : WC P G X n (.cond c a b) env h N E R F := Go.Am.QR hX hw hc
theorem QS (hw : WC P G X n b env h N E R F) (hc : aJ G env c = some (.bool false) := by first | rfl | assumption) : WC P G X n (.cond c a b) env h N E R F := Go.Am.QS hX hw hc
theorem QU (hw : WC P G X n a env h (fun e h => WC P G X n b e h N E R F) E R F) : WC P G X n (.seq a b) env h N E R F := Go.Am.QU hX hw
theorem QV (hw : WR P G X n ops ops.toList env h N F) : WC P G X n (.region id ops false) env h N E R F := Go.Am.QV hX hw
end
section
variable {P : Program} {n : Nat} {N : Env → aA → Prop} {E : Nat → Env → aA → Prop} {R : Env → aA → Prop} {F : List PanicEntry → aA → Prop} {env : Env} {h : aA}
theorem Bk {id : Nat} {b : Code} (hw : WC P G X n b env h N (fun i e h => if i = id then N e h else E i e h) R F) : WC P G X n (.block id b) env h N E R F := WC.block hX hw
theorem Gd {id : Nat} {ops : Array Oper} (l : List cQ) (hp : aK0 P ops = some l := by decide +kernel) (w : WD P G X n ops l [] env h N F) : WC P G X n (.region id ops true) env h N E R F := WC.drawn hX hp w
end
def eU (c : Int) : Bool := decide (97 ≤ c ∧ c ≤ 122 ∨ 65 ≤ c ∧ c ≤ 90 ∨ c = 95)
def bN (c : Int) : Bool := decide (48 ≤ c ∧ c ≤ 57)

theorem aGo {p : Prop} [Decidable p] (hp : p) : Value.bool true = .bool (decide p) := by rw [decide_eq_true hp]
theorem aGn {p : Prop} [Decidable p] (hp : ¬p) : Value.bool false = .bool (decide p) := by rw [decide_eq_false hp]

theorem sC {c : Int} (hq : Q (.ret (.bool (eU c)) h)) : aS Tryz.prog G X 103 [.int .u8 c] h Q := by
 refine Wk Tryz.func103 Tryz.ntmps103 (w:=QN (Mb (w:=QO (Ma (w:=MI (w:=fun hh => Ma (w:=Ma (w:=MG (w:=fun hh => Mc (w:=Ma (w:=MA (w:=MA (w:=MA (w:=MA (w:=MA (w:=MA (w:=Mc (w:=Ma (w:=MA (w:=MA (w:=Mc (w:=Mb (w:=QM ?_))))))))))))))) (v:=fun hh => Mc (w:=Ma (w:=Ma (w:=MI (w:=fun hh => Ma (w:=Ma (w:=MG (w:=fun hh => by omega) (v:=fun hh => Mc (w:=Md (w:=Ma (w:=Ma (w:=MD (w:=fun hh => by omega) (v:=fun hh => Md (w:=Mb (w:=QM ?_))))))))))) (v:=fun hh => by omega)))))))) (v:=fun hh => Ma (w:=MA (w:=MA (w:=Md (w:=Ma (w:=Ma (w:=MI (w:=fun hh => Ma (w:=Ma (w:=MG (w:=fun hh => Mc (w:=Md (w:=Ma (w:=MA (w:=MA (w:=Mc (w:=Mb (w:=QM ?_)))))))) (v:=fun hh => Mc (w:=Md (w:=Ma (w:=Ma (w:=MD (w:=fun hh => Md (w:=Mb (w:=QM ?_))) (v:=fun hh => Md (w:=Mb (w:=QM ?_))))))))))) (v:=fun hh => Ma (w:=MA (w:=MA (w:=Md (w:=Md (w:=Ma (w:=Ma (w:=MD (w:=fun hh => by omega) (v:=fun hh => Md (w:=Mb (w:=QM ?_)))))))))))))))))))))))
 all_goals (refine ⟨_, rfl, ?_⟩; refine (congrArg (fun v => Q (.ret v h)) (?_ : answer _ = _)).mpr hq; unfold eU; first | exact aGo (by omega) | exact aGn (by omega))

theorem zB {c : Int} (hq : Q (.ret (.bool (bN c)) h)) : aS Tryz.prog G X 105 [.int .u8 c] h Q := by
 refine Wk Tryz.func105 Tryz.ntmps105 (w:=QN (Mb (w:=QO (Ma (w:=MI (w:=fun hh => Ma (w:=Ma (w:=MG (w:=fun hh => Mc (w:=Mb (w:=QM ?_))) (v:=fun hh => Mc (w:=Mb (w:=QM ?_)))))) (v:=fun hh => Ma (w:=MA (w:=MA (w:=Md (w:=Mb (w:=QM ?_)))))))))))
 all_goals (refine ⟨_, rfl, ?_⟩; refine (congrArg (fun v => Q (.ret v h)) (?_ : answer _ = _)).mpr hq; unfold bN; first | exact aGo (by omega) | exact aGn (by omega))

theorem aN {P : Program} {f : FuncId} {fn : Func} (hf : P.funcs[f]? = some fn) (hb : fn.body.isSome = true) (hn : (fn.name == "runtime.NumGoroutine") = false) (vs : List Value) : aQ P f vs = some (.enter f vs) := by
 simp only [aQ, hf, hb, hn, Bool.not_false, Bool.and_self, if_true]
theorem en8 : ∀ vs, aQ Tryz.prog 8 vs = some (.enter 8 vs) := aN Tryz.func8 rfl (by decide +kernel)
theorem aOw : ∀ vs, aQ Tryz.prog 10 vs = some (.enter 10 vs) := aN Tryz.func10 rfl (by decide +kernel)
theorem aO5 : ∀ vs, aQ Tryz.prog 12 vs = some (.enter 12 vs) := aN Tryz.func12 rfl (by decide +kernel)
theorem aS3 : ∀ vs, aQ Tryz.prog 13 vs = some (.enter 13 vs) := aN Tryz.func13 rfl (by decide +kernel)
theorem aS0 : ∀ vs, aQ Tryz.prog 14 vs = some (.enter 14 vs) := aN Tryz.func14 rfl (by decide +kernel)
theorem aS4 : ∀ vs, aQ Tryz.prog 17 vs = some (.enter 17 vs) := aN Tryz.func17 rfl (by decide +kernel)
theorem aQr : ∀ vs, aQ Tryz.prog 26 vs = some (.enter 26 vs) := aN Tryz.func26 rfl (by decide +kernel)
theorem aQs : ∀ vs, aQ Tryz.prog 27 vs = some (.enter 27 vs) := aN Tryz.func27 rfl (by decide +kernel)
theorem aJt : ∀ vs, aQ Tryz.prog 28 vs = some (.enter 28 vs) := aN Tryz.func28 rfl (by decide +kernel)
theorem jP : ∀ vs, aQ Tryz.prog 29 vs = some (.enter 29 vs) := aN Tryz.func29 rfl (by decide +kernel)
theorem aS5 : ∀ vs, aQ Tryz.prog 31 vs = some (.enter 31 vs) := aN Tryz.func31 rfl (by decide +kernel)
theorem bQ : ∀ vs, aQ Tryz.prog 42 vs = some (.enter 42 vs) := aN Tryz.func42 rfl (by decide +kernel)
theorem aJu : ∀ vs, aQ Tryz.prog 43 vs = some (.enter 43 vs) := aN Tryz.func43 rfl (by decide +kernel)
theorem aPu : ∀ vs, aQ Tryz.prog 44 vs = some (.enter 44 vs) := aN Tryz.func44 rfl (by decide +kernel)
theorem aQt : ∀ vs, aQ Tryz.prog 48 vs = some (.enter 48 vs) := aN Tryz.func48 rfl (by decide +kernel)
theorem aQu : ∀ vs, aQ Tryz.prog 49 vs = some (.enter 49 vs) := aN Tryz.func49 rfl (by decide +kernel)
theorem aQv : ∀ vs, aQ Tryz.prog 51 vs = some (.enter 51 vs) := aN Tryz.func51 rfl (by decide +kernel)
theorem aQw : ∀ vs, aQ Tryz.prog 56 vs = some (.enter 56 vs) := aN Tryz.func56 rfl (by decide +kernel)
theorem aQx : ∀ vs, aQ Tryz.prog 57 vs = some (.enter 57 vs) := aN Tryz.func57 rfl (by decide +kernel)
theorem eH : ∀ vs, aQ Tryz.prog 58 vs = some (.enter 58 vs) := aN Tryz.func58 rfl (by decide +kernel)
theorem aG7 : ∀ vs, aQ Tryz.prog 59 vs = some (.enter 59 vs) := aN Tryz.func59 rfl (by decide +kernel)
theorem aCx : ∀ vs, aQ Tryz.prog 60 vs = some (.enter 60 vs) := aN Tryz.func60 rfl (by decide +kernel)
theorem aQy : ∀ vs, aQ Tryz.prog 61 vs = some (.enter 61 vs) := aN Tryz.func61 rfl (by decide +kernel)
theorem aA0 : ∀ vs, aQ Tryz.prog 62 vs = some (.enter 62 vs) := aN Tryz.func62 rfl (by decide +kernel)
theorem aQz : ∀ vs, aQ Tryz.prog 63 vs = some (.enter 63 vs) := aN Tryz.func63 rfl (by decide +kernel)
theorem aQ0 : ∀ vs, aQ Tryz.prog 77 vs = some (.enter 77 vs) := aN Tryz.func77 rfl (by decide +kernel)
theorem aA1 : ∀ vs, aQ Tryz.prog 78 vs = some (.enter 78 vs) := aN Tryz.func78 rfl (by decide +kernel)
theorem aA2 : ∀ vs, aQ Tryz.prog 79 vs = some (.enter 79 vs) := aN Tryz.func79 rfl (by decide +kernel)
theorem aQ1 : ∀ vs, aQ Tryz.prog 82 vs = some (.enter 82 vs) := aN Tryz.func82 rfl (by decide +kernel)
theorem aPv : ∀ vs, aQ Tryz.prog 83 vs = some (.enter 83 vs) := aN Tryz.func83 rfl (by decide +kernel)
theorem xZ : ∀ vs, aQ Tryz.prog 84 vs = some (.enter 84 vs) := aN Tryz.func84 rfl (by decide +kernel)
theorem rB : ∀ vs, aQ Tryz.prog 85 vs = some (.enter 85 vs) := aN Tryz.func85 rfl (by decide +kernel)
theorem aQ2 : ∀ vs, aQ Tryz.prog 86 vs = some (.enter 86 vs) := aN Tryz.func86 rfl (by decide +kernel)
theorem eI : ∀ vs, aQ Tryz.prog 87 vs = some (.enter 87 vs) := aN Tryz.func87 rfl (by decide +kernel)
theorem aQ3 : ∀ vs, aQ Tryz.prog 92 vs = some (.enter 92 vs) := aN Tryz.func92 rfl (by decide +kernel)
theorem aQ4 : ∀ vs, aQ Tryz.prog 93 vs = some (.enter 93 vs) := aN Tryz.func93 rfl (by decide +kernel)
theorem aQ5 : ∀ vs, aQ Tryz.prog 94 vs = some (.enter 94 vs) := aN Tryz.func94 rfl (by decide +kernel)
theorem aQ6 : ∀ vs, aQ Tryz.prog 96 vs = some (.enter 96 vs) := aN Tryz.func96 rfl (by decide +kernel)
theorem aPw : ∀ vs, aQ Tryz.prog 97 vs = some (.enter 97 vs) := aN Tryz.func97 rfl (by decide +kernel)
theorem aJv : ∀ vs, aQ Tryz.prog 98 vs = some (.enter 98 vs) := aN Tryz.func98 rfl (by decide +kernel)
theorem aOx : ∀ vs, aQ Tryz.prog 100 vs = some (.enter 100 vs) := aN Tryz.func100 rfl (by decide +kernel)
theorem aG4 : ∀ vs, aQ Tryz.prog 101 vs = some (.enter 101 vs) := aN Tryz.func101 rfl (by decide +kernel)
theorem aOy : ∀ vs, aQ Tryz.prog 102 vs = some (.enter 102 vs) := aN Tryz.func102 rfl (by decide +kernel)
theorem aD6 : ∀ vs, aQ Tryz.prog 103 vs = some (.enter 103 vs) := aN Tryz.func103 rfl (by decide +kernel)
theorem aOz : ∀ vs, aQ Tryz.prog 104 vs = some (.enter 104 vs) := aN Tryz.func104 rfl (by decide +kernel)
theorem aG5 : ∀ vs, aQ Tryz.prog 105 vs = some (.enter 105 vs) := aN Tryz.func105 rfl (by decide +kernel)
theorem aO0 : ∀ vs, aQ Tryz.prog 106 vs = some (.enter 106 vs) := aN Tryz.func106 rfl (by decide +kernel)
theorem aO1 : ∀ vs, aQ Tryz.prog 107 vs = some (.enter 107 vs) := aN Tryz.func107 rfl (by decide +kernel)
theorem aO2 : ∀ vs, aQ Tryz.prog 108 vs = some (.enter 108 vs) := aN Tryz.func108 rfl (by decide +kernel)
theorem aO3 : ∀ vs, aQ Tryz.prog 109 vs = some (.enter 109 vs) := aN Tryz.func109 rfl (by decide +kernel)
theorem c8 : ∀ vs, aQ Tryz.prog 110 vs = some (.enter 110 vs) := aN Tryz.func110 rfl (by decide +kernel)
theorem cG : ∀ vs, aQ Tryz.prog 111 vs = some (.enter 111 vs) := aN Tryz.func111 rfl (by decide +kernel)
theorem oY : ∀ vs, aQ Tryz.prog 112 vs = some (.enter 112 vs) := aN Tryz.func112 rfl (by decide +kernel)
theorem bM : ∀ vs, aQ Tryz.prog 113 vs = some (.enter 113 vs) := aN Tryz.func113 rfl (by decide +kernel)
theorem nP : ∀ vs, aQ Tryz.prog 114 vs = some (.enter 114 vs) := aN Tryz.func114 rfl (by decide +kernel)
theorem aLp : ∀ vs, aQ Tryz.prog 115 vs = some (.enter 115 vs) := aN Tryz.func115 rfl (by decide +kernel)
theorem kS : ∀ vs, aQ Tryz.prog 116 vs = some (.enter 116 vs) := aN Tryz.func116 rfl (by decide +kernel)
theorem oZ : ∀ vs, aQ Tryz.prog 117 vs = some (.enter 117 vs) := aN Tryz.func117 rfl (by decide +kernel)
theorem aO4 : ∀ vs, aQ Tryz.prog 119 vs = some (.enter 119 vs) := aN Tryz.func119 rfl (by decide +kernel)
theorem wI : ∀ vs, aQ Tryz.prog 123 vs = some (.enter 123 vs) := aN Tryz.func123 rfl (by decide +kernel)
theorem aO6 : ∀ vs, aQ Tryz.prog 124 vs = some (.enter 124 vs) := aN Tryz.func124 rfl (by decide +kernel)
theorem aO7 : ∀ vs, aQ Tryz.prog 128 vs = some (.enter 128 vs) := aN Tryz.func128 rfl (by decide +kernel)
theorem aO8 : ∀ vs, aQ Tryz.prog 129 vs = some (.enter 129 vs) := aN Tryz.func129 rfl (by decide +kernel)
theorem aO9 : ∀ vs, aQ Tryz.prog 130 vs = some (.enter 130 vs) := aN Tryz.func130 rfl (by decide +kernel)
theorem aD7 : ∀ vs, aQ Tryz.prog 131 vs = some (.enter 131 vs) := aN Tryz.func131 rfl (by decide +kernel)
theorem aPa : ∀ vs, aQ Tryz.prog 132 vs = some (.enter 132 vs) := aN Tryz.func132 rfl (by decide +kernel)
theorem aD8 : ∀ vs, aQ Tryz.prog 133 vs = some (.enter 133 vs) := aN Tryz.func133 rfl (by decide +kernel)
theorem aLq : ∀ vs, aQ Tryz.prog 134 vs = some (.enter 134 vs) := aN Tryz.func134 rfl (by decide +kernel)
theorem nQ : ∀ vs, aQ Tryz.prog 135 vs = some (.enter 135 vs) := aN Tryz.func135 rfl (by decide +kernel)
theorem yP : ∀ vs, aQ Tryz.prog 136 vs = some (.enter 136 vs) := aN Tryz.func136 rfl (by decide +kernel)
theorem aPb : ∀ vs, aQ Tryz.prog 143 vs = some (.enter 143 vs) := aN Tryz.func143 rfl (by decide +kernel)
theorem aPc : ∀ vs, aQ Tryz.prog 149 vs = some (.enter 149 vs) := aN Tryz.func149 rfl (by decide +kernel)
theorem aLr : ∀ vs, aQ Tryz.prog 150 vs = some (.enter 150 vs) := aN Tryz.func150 rfl (by decide +kernel)
theorem aLs : ∀ vs, aQ Tryz.prog 151 vs = some (.enter 151 vs) := aN Tryz.func151 rfl (by decide +kernel)
theorem aPd : ∀ vs, aQ Tryz.prog 156 vs = some (.enter 156 vs) := aN Tryz.func156 rfl (by decide +kernel)
theorem aPe : ∀ vs, aQ Tryz.prog 158 vs = some (.enter 158 vs) := aN Tryz.func158 rfl (by decide +kernel)
theorem aLt : ∀ vs, aQ Tryz.prog 159 vs = some (.enter 159 vs) := aN Tryz.func159 rfl (by decide +kernel)
theorem aLu : ∀ vs, aQ Tryz.prog 179 vs = some (.enter 179 vs) := aN Tryz.func179 rfl (by decide +kernel)
theorem nR : ∀ vs, aQ Tryz.prog 188 vs = some (.enter 188 vs) := aN Tryz.func188 rfl (by decide +kernel)
theorem aPf : ∀ vs, aQ Tryz.prog 189 vs = some (.enter 189 vs) := aN Tryz.func189 rfl (by decide +kernel)
theorem aLv : ∀ vs, aQ Tryz.prog 209 vs = some (.enter 209 vs) := aN Tryz.func209 rfl (by decide +kernel)
theorem hG : ∀ vs, aQ Tryz.prog 210 vs = some (.enter 210 vs) := aN Tryz.func210 rfl (by decide +kernel)
theorem aLw : ∀ vs, aQ Tryz.prog 211 vs = some (.enter 211 vs) := aN Tryz.func211 rfl (by decide +kernel)
theorem aD9 : ∀ vs, aQ Tryz.prog 212 vs = some (.enter 212 vs) := aN Tryz.func212 rfl (by decide +kernel)
theorem aLx : ∀ vs, aQ Tryz.prog 213 vs = some (.enter 213 vs) := aN Tryz.func213 rfl (by decide +kernel)
theorem aAx : ∀ vs, aQ Tryz.prog 226 vs = some (.enter 226 vs) := aN Tryz.func226 rfl (by decide +kernel)
theorem aLy : ∀ vs, aQ Tryz.prog 227 vs = some (.enter 227 vs) := aN Tryz.func227 rfl (by decide +kernel)
theorem aPg : ∀ vs, aQ Tryz.prog 228 vs = some (.enter 228 vs) := aN Tryz.func228 rfl (by decide +kernel)
theorem aG6 : ∀ vs, aQ Tryz.prog 229 vs = some (.enter 229 vs) := aN Tryz.func229 rfl (by decide +kernel)
theorem aLz : ∀ vs, aQ Tryz.prog 230 vs = some (.enter 230 vs) := aN Tryz.func230 rfl (by decide +kernel)
theorem aPh : ∀ vs, aQ Tryz.prog 231 vs = some (.enter 231 vs) := aN Tryz.func231 rfl (by decide +kernel)
theorem aAy : ∀ vs, aQ Tryz.prog 232 vs = some (.enter 232 vs) := aN Tryz.func232 rfl (by decide +kernel)
theorem aL0 : ∀ vs, aQ Tryz.prog 233 vs = some (.enter 233 vs) := aN Tryz.func233 rfl (by decide +kernel)
theorem aAz : ∀ vs, aQ Tryz.prog 243 vs = some (.enter 243 vs) := aN Tryz.func243 rfl (by decide +kernel)
theorem aL1 : ∀ vs, aQ Tryz.prog 244 vs = some (.enter 244 vs) := aN Tryz.func244 rfl (by decide +kernel)
theorem aPi : ∀ vs, aQ Tryz.prog 245 vs = some (.enter 245 vs) := aN Tryz.func245 rfl (by decide +kernel)
theorem aPj : ∀ vs, aQ Tryz.prog 246 vs = some (.enter 246 vs) := aN Tryz.func246 rfl (by decide +kernel)
theorem wJ : ∀ vs, aQ Tryz.prog 247 vs = some (.enter 247 vs) := aN Tryz.func247 rfl (by decide +kernel)
theorem aPk : ∀ vs, aQ Tryz.prog 248 vs = some (.enter 248 vs) := aN Tryz.func248 rfl (by decide +kernel)
theorem uH : ∀ vs, aQ Tryz.prog 249 vs = some (.enter 249 vs) := aN Tryz.func249 rfl (by decide +kernel)
theorem aPl : ∀ vs, aQ Tryz.prog 250 vs = some (.enter 250 vs) := aN Tryz.func250 rfl (by decide +kernel)
theorem aL2 : ∀ vs, aQ Tryz.prog 251 vs = some (.enter 251 vs) := aN Tryz.func251 rfl (by decide +kernel)
theorem aPm : ∀ vs, aQ Tryz.prog 252 vs = some (.enter 252 vs) := aN Tryz.func252 rfl (by decide +kernel)
theorem aPn : ∀ vs, aQ Tryz.prog 253 vs = some (.enter 253 vs) := aN Tryz.func253 rfl (by decide +kernel)
theorem aPo : ∀ vs, aQ Tryz.prog 254 vs = some (.enter 254 vs) := aN Tryz.func254 rfl (by decide +kernel)
theorem aL3 : ∀ vs, aQ Tryz.prog 255 vs = some (.enter 255 vs) := aN Tryz.func255 rfl (by decide +kernel)
theorem aPp : ∀ vs, aQ Tryz.prog 256 vs = some (.enter 256 vs) := aN Tryz.func256 rfl (by decide +kernel)
theorem aPq : ∀ vs, aQ Tryz.prog 257 vs = some (.enter 257 vs) := aN Tryz.func257 rfl (by decide +kernel)
theorem aPr : ∀ vs, aQ Tryz.prog 258 vs = some (.enter 258 vs) := aN Tryz.func258 rfl (by decide +kernel)
theorem aL4 : ∀ vs, aQ Tryz.prog 259 vs = some (.enter 259 vs) := aN Tryz.func259 rfl (by decide +kernel)
theorem wK : ∀ vs, aQ Tryz.prog 260 vs = some (.enter 260 vs) := aN Tryz.func260 rfl (by decide +kernel)
theorem aPs : ∀ vs, aQ Tryz.prog 310 vs = some (.enter 310 vs) := aN Tryz.func310 rfl (by decide +kernel)
theorem aPt : ∀ vs, aQ Tryz.prog 312 vs = some (.enter 312 vs) := aN Tryz.func312 rfl (by decide +kernel)
def runN (p : Int → Bool) (src : ByteArray) (at_ : Nat) : Nat := ((src.data.toList.drop at_).takeWhile fun b => p b.toNat).length

theorem q5 {α} (q : α → Bool) : ∀ (l : List α) (n : Nat), (∀ j, j < n → ∃ x, l[j]? = some x ∧ q x = true) → (∀ x, l[n]? = some x → q x = false) → (l.takeWhile q).length = n
 | [], 0, _, _ => rfl
 | [], n + 1, h, _ => by obtain ⟨x, hx, _⟩ := h 0 (by omega); simp at hx
 | a :: l, 0, _, h => by simp [h a (by simp)]
 | a :: l, n + 1, h, h2 => by
  obtain ⟨x, hx, hq⟩ := h 0 (by omega)
  simp at hx; subst hx
  rw [List.takeWhile_cons, if_pos hq, List.length_cons, q5 q l n (fun j hj => by simpa using h (j + 1) (by omega)) (fun x hx => h2 x (by simpa using hx))]

theorem gT {s : ByteArray} {k : Nat} (hk : k < s.size) : ∃ b, s.data.toList[k]? = some b ∧ bD s k = b.toNat := by
 have hk' : k < s.data.toList.length := by simpa using hk
 refine ⟨s.data.toList[k], List.getElem?_eq_getElem hk', ?_⟩
 unfold bD
 rw [List.getD_eq_getElem?_getD, Int.toNat_natCast, List.getElem?_eq_getElem hk']; rfl

theorem aEs {p : Int → Bool} {a n : Nat} (hall : ∀ j, j < n → p (bD src ((a + j : Nat) : Int)) = true) (hn : a + n ≤ src.size) (hend : a + n < src.size → p (bD src ((a + n : Nat) : Int)) = false) : runN p src a = n := by
 refine q5 _ _ _ (fun j hj => ?_) fun x hx => ?_
 ·obtain ⟨b, hb, hv⟩ := gT (s := src) (k := a + j) (by omega)
  exact ⟨b, by simpa using hb, by have := hall j hj; rwa [hv] at this⟩
 ·simp only [List.getElem?_drop] at hx
  have hlt : a + n < src.size := by
   rcases Nat.lt_or_ge (a + n) src.size with h | h
   ·exact h
   ·rw [List.getElem?_eq_none (by simpa using h)] at hx; cases hx
  obtain ⟨b, hb, hv⟩ := gT hlt
  rw [hx] at hb; cases hb
  have := hend hlt; rwa [hv] at this

def aDx (f : FuncId) (p : Int → Bool) : Prop := (∀ vs, aQ Tryz.prog f vs = some (.enter f vs)) ∧ ∀ (c : Int) (h : aA) (Q : bR → Prop), 0 ≤ c ∧ c ≤ 255 → Q (.ret (.bool (p c)) h) → aS Tryz.prog G X f [.int .u8 c] h Q

theorem aIp {s : Nat} {a : Nat} {lv : Value} {f : FuncId} {p : Int → Bool} (hf : aDx f p) (hsz : src.size ≤ 100000) (ho : h.obj s = some (.cells false [.string src, .int .i64 a, lv])) (hat : a ≤ src.size)
  (hq : Q (.ret (.int .i64 (runN p src a)) h)) : aS Tryz.prog G X 101 [.pointer (some ⟨s, 0, none⟩), .func (.func f) #[] #[]] h Q := by
 refine Wk Tryz.func101 Tryz.ntmps101 (w:=QN (Mb (w:=QO (Mb (w:=QL (QU (Bk ?_)))))))
 refine WC.cB hX (m := fun n : Nat => src.size - a - n) (Inv := fun n e h' => e 0 = some (.pointer (some ⟨s, 0, none⟩)) ∧ e 1 = some (.func (.func f) #[] #[]) ∧ e 5 = some (.int .i64 n) ∧ h' = h ∧ a + n ≤ src.size ∧ ∀ j, j < n → p (bD src ((a + j : Nat) : Int)) = true) 0 ⟨rfl, rfl, rfl, rfl, by omega, by omega⟩ ?_
 intro n env h' ih ⟨e0, e1, e5, eh, hle, hall⟩
 subst eh
 refine QU (QU (Gd [⟨0, .pure, 0⟩, ⟨1, .pure, 1⟩, ⟨2, .pure, 3⟩, ⟨3, .read, 7⟩, ⟨4, .pure, 0⟩, ⟨5, .pure, 31⟩, ⟨6, .pure, 0⟩, ⟨7, .pure, 64⟩, ⟨8, .pure, 192⟩, ⟨9, .read, 448⟩, ⟨10, .read, 960⟩, ⟨11, .pure, 2047⟩, ⟨12, .pure, 4095⟩, ⟨13, .pure, 8191⟩, ⟨14, .pure, 8191⟩, ⟨15, .pure, 24575⟩, ⟨16, .pure, 57343⟩, ⟨17, .read, 122879⟩, ⟨18, .pure, 8191⟩, ⟨19, .pure, 270335⟩, ⟨20, .pure, 794623⟩, ⟨21, .read, 1843199⟩, ⟨22, .pure, 8191⟩, ⟨23, .pure, 8134655⟩, ⟨24, .pure, 16769023⟩, ⟨25, .aF, 33554431⟩, ⟨26, .pure, 67108863⟩] (w:=Da (w:=Di (w:=Dj (w:=Rt (w:=Da (w:=Df (w:=Da (w:=Di (w:=Dj (w:=Rt (w:=Rr (w:=?_))))))))))))));refine QW (k := QF ?_ ?_);intro hh;refine Da (w:=Da (w:=Da (w:=Di (w:=Dj (w:=Rt (w:=Da (w:=Di (w:=Dj (w:=Rt (w:=Da (w:=Df (w:=Dm (w:=?_)))))))))))));refine WD.aF hX (hw := ?_);rotate_left;intro hh;refine Da (w:=DA (w:=DA (w:=DA (w:=DA (w:=RA (w:=DA (w:=DA (w:=DA (w:=RA (w:=DA (w:=DA (w:=DA (w:=?_)))))))))))));refine WD.aF hX (hw := QA ?_);refine Dd (w:=WD.nil (hq:=QS (WC.exit (aH (QN (Ma (w:=Mb (w:=QM ?_))))))));rotate_left
 ·apply WS.uD; (· rfl); (· rfl); (· exact aL); (· rfl); (· rfl); (· exact hf.1)
  refine hf.2 _ _ _ (aAj _ _) ?_
  refine Dc (w:=WD.nil (hq:=WC.aD4 hX (h1 := fun hh => UA (Bk (QV (Ma (w:=Mf (w:=Mb (w:=QL ?_))))))) (h2 := fun hh => WC.exit (aH (QN (Ma (w:=Mb (w:=QM ?_))))))))
  ·refine ih (n + 1) _ _ (by omega) ⟨e0, e1, rfl, rfl, by omega, fun j hj => ?_⟩
   rcases Nat.lt_succ_iff_lt_or_eq.1 hj with hj | rfl
   ·exact hall j hj
   ·exact hh
  ·refine ⟨_, rfl, ?_⟩
   rw [aEs hall hle fun _ => hh] at hq
   exact hq
 ·refine ⟨_, rfl, ?_⟩
  rw [aEs hall hle fun _ => by omega] at hq
  exact hq

structure Tok where
 kind : Int
 text : ByteArray
 num : Int
 pos : Int
 deriving DecidableEq

def Tok.cells (t : Tok) : List Value := [.int .i64 t.kind, .string t.text, .int .i64 t.num, .int .i64 t.pos]
def cellsOf (l : List Tok) : List Value := l.flatMap Tok.cells

theorem gK (l : List Tok) : (cellsOf l).length = l.length * 4 := by
 induction l with
 | nil => rfl
 | cons a l ih => simp only [cellsOf, List.flatMap_cons, List.length_append, List.length_cons] at ih ⊢; rw [ih]; simp [Tok.cells]; omega

def vQ (h : aA) (lo : Nat) (b : Option Addr) (n es : Nat) (l : List Tok) : Prop :=
 (b = none ∧ n = 0 ∧ es = 0 ∧ l = []) ∨ ∃ i, b = some ⟨i, 0, none⟩ ∧ lo ≤ i ∧ i < h.next ∧ es = 4 ∧ n = l.length ∧ h.obj i = some (.cells false (cellsOf l))

theorem vQ.len {lo : Nat} {b : Option Addr} {n es : Nat} {l : List Tok} (ht : vQ h lo b n es l) : n = l.length := by
 rcases ht with ⟨_, rfl, _, rfl⟩ | ⟨i, _, _, _, _, rfl, _⟩ <;> rfl

theorem vQ.at {lo : Nat} {b : Option Addr} {n es : Nat} {l : List Tok} (ht : vQ h lo b n es l) : kG h b n es 4 (cellsOf l) := by
 rcases ht with ⟨rfl, rfl, rfl, rfl⟩ | ⟨i, rfl, _, _, rfl, rfl, ho⟩
 ·exact .inl ⟨rfl, rfl, rfl, rfl⟩
 ·exact .inr ⟨i, 0, _, rfl, rfl, ho, by rw [gK]; omega, by rw [List.drop_zero, List.take_of_length_le (by rw [gK]; omega)]⟩

theorem vQ.mono {h h' : aA} {lo : Nat} {b : Option Addr} {n es : Nat} {l : List Tok} (ht : vQ h lo b n es l) (hn : h.next ≤ h'.next) (ho : ∀ j, lo ≤ j → j < h.next → h'.obj j = h.obj j) : vQ h' lo b n es l := by
 rcases ht with ⟨rfl, rfl, rfl, rfl⟩ | ⟨i, rfl, h1, h2, rfl, rfl, h3⟩
 ·exact .inl ⟨rfl, rfl, rfl, rfl⟩
 ·exact .inr ⟨i, rfl, h1, by omega, rfl, rfl, by rw [ho i h1 h2]; exact h3⟩

def Sc (h : aA) (s : Nat) (src : ByteArray) (k : Nat) (l : List Tok) : Prop :=
 s < h.next ∧ ∃ b n es, h.obj s = some (.cells false [.string src, .int .i64 k, .slice b n es]) ∧ vQ h (s + 1) b n es l

def Fr (s : Nat) (h h' : aA) : Prop := h.next ≤ h'.next ∧ ∀ j, j < s → h'.obj j = h.obj j

theorem Fr.refl (s : Nat) (h : aA) : Fr s h h := ⟨Nat.le_refl _, fun _ _ => rfl⟩
theorem Fr.trans {s : Nat} {a b c : aA} (x : Fr s a b) (y : Fr s b c) : Fr s a c := ⟨Nat.le_trans x.1 y.1, fun j hj => (y.2 j hj).trans (x.2 j hj)⟩

theorem qR {s : Nat} {k : Nat} {l : List Tok} {kind num : Int} {text : ByteArray} {size : Nat} (hs : Sc h s src k l) (hl : l.length ≤ 100000) (hk : k ≤ 100000) (hz : size ≤ 100000)
  (hq : ∀ h', Sc h' s src (k + size) (l ++ [⟨kind, text, num, k⟩]) → Fr s h h' → Q (.ret (.tuple #[]) h')) :
  aS Tryz.prog G X 84 [.pointer (some ⟨s, 0, none⟩), .int .i64 kind, .string text, .int .i64 num, .int .i64 size] h Q := by
 obtain ⟨hlt, b, n, es, ho, ht⟩ := hs
 have hlen := ht.len
 refine Wk Tryz.func84 Tryz.ntmps84 (w:=?_)
 refine QU (Gd [⟨0, .pure, 0⟩, ⟨1, .pure, 0⟩, ⟨2, .pure, 2⟩, ⟨3, .pure, 6⟩, ⟨4, .read, 14⟩, ⟨5, .pure, 0⟩, ⟨6, .pure, 0⟩, ⟨7, .pure, 0⟩, ⟨8, .pure, 0⟩, ⟨9, .pure, 256⟩, ⟨10, .pure, 768⟩, ⟨11, .read, 1792⟩, ⟨12, .pure, 4064⟩, ⟨13, .alloc, 8160⟩, ⟨14, .aF, 16382⟩, ⟨15, .pure, 32767⟩, ⟨16, .pure, 65535⟩, ⟨17, .aF, 131071⟩] (w:=Da (w:=Da (w:=Di (w:=Dj (w:=Rt (w:=Da (w:=Da (w:=Da (w:=Da (w:=Di (w:=Dj (w:=Rt (w:=Dn (w:=?_)))))))))))))));refine WD.alloc (hw := Qz ?_);refine WD.aF hX (hw := ?_)
 ·apply WS.append
  (· rfl); (· rfl); (· exact aL); (· exact aL); (· rfl); (· rfl); (· intro k hk; cases hk); (· exact cE rfl); (· decide); (· exact aD); (· exact iC); (· rfl); (· unfold room; omega); (· rfl)
  (· exact (ht.mono (h' := h.alloc _) (by simp) (fun j _ hj => bX (by omega) rfl)).at)
  intro h1 hn1 ho1 hf1
  have hos : h1.obj s = some (dS.cells false [Value.string src, Value.int IntKind.i64 k, Value.slice b n es]) := by
   rw [hf1 s (by simp; omega) (by rcases ht with ⟨rfl, _⟩ | ⟨i, rfl, h1, _⟩ <;> intro off e <;> cases e; omega)]
   exact bX (by omega) ho
  refine Di (w:=Dj (w:=?_));refine WD.aF hX (hw := Qv ?_);refine WD.nil (hq:=QV (Ma (w:=Mi (w:=Mj (w:=Mt (w:=Ma (w:=Mf (w:=Mi (w:=Mj (w:=Mv (w:=QL ?_)))))))))))
  refine ⟨_, rfl, hq _ ⟨by simp [hn1]; omega, some ⟨h.next + 1, 0, none⟩, n + 1, 4, ?_, .inr ⟨h.next + 1, rfl, by omega, by simp [hn1], rfl, by simp [hlen], ?_⟩⟩ ⟨by simp [hn1]; omega, fun j hj => ?_⟩⟩
  ·rw [Int.natCast_add]; exact eG
  ·refine bF (by omega) (bF (by omega) ?_)
   simp only [aA.aC] at ho1
   rw [ho1]
   simp [cellsOf, Tok.cells]
  ·refine bF (by omega) (bF (by omega) ?_)
   rw [hf1 j (by simp; omega) (by rcases ht with ⟨rfl, _⟩ | ⟨i, rfl, h1, _⟩ <;> intro off e <;> cases e; omega)]
   exact bX (by omega) rfl

def words : List ByteArray := [⟨#[97, 112, 112, 101, 110, 100]⟩, ⟨#[98, 111, 111, 108]⟩, ⟨#[98, 114, 101, 97, 107]⟩, ⟨#[99, 97, 112]⟩, ⟨#[99, 97, 115, 101]⟩, ⟨#[99, 104, 97, 110]⟩, ⟨#[99, 108, 111, 115, 101]⟩, ⟨#[99, 111, 110, 116, 105, 110, 117, 101]⟩, ⟨#[100, 101, 102, 97, 117, 108, 116]⟩, ⟨#[100, 101, 102, 101, 114]⟩, ⟨#[101, 108, 115, 101]⟩, ⟨#[102, 97, 108, 108, 116, 104, 114, 111, 117, 103, 104]⟩, ⟨#[102, 97, 108, 115, 101]⟩, ⟨#[102, 111, 114]⟩, ⟨#[102, 117, 110, 99]⟩, ⟨#[103, 111]⟩, ⟨#[105, 102]⟩, ⟨#[105, 110, 116]⟩, ⟨#[108, 101, 110]⟩, ⟨#[109, 97, 107, 101]⟩, ⟨#[110, 101, 119]⟩, ⟨#[110, 105, 108]⟩, ⟨#[112, 97, 110, 105, 99]⟩, ⟨#[112, 114, 105, 110, 116]⟩, ⟨#[114, 101, 99, 111, 118, 101, 114]⟩, ⟨#[114, 101, 116, 117, 114, 110]⟩, ⟨#[115, 101, 108, 101, 99, 116]⟩, ⟨#[115, 116, 114, 105, 110, 103]⟩, ⟨#[115, 116, 114, 117, 99, 116]⟩, ⟨#[115, 119, 105, 116, 99, 104]⟩, ⟨#[116, 114, 117, 101]⟩, ⟨#[116, 121, 112, 101]⟩, ⟨#[118, 97, 114]⟩]

def lR (l : List ByteArray) (s : ByteArray) : Bool := l.any fun w => decide (s = w)
theorem iN {l : List ByteArray} {s : ByteArray} : lR l s = true ↔ s ∈ l := by
 unfold lR
 rw [List.any_eq_true]
 exact ⟨fun ⟨w, hw, he⟩ => by rw [decide_eq_true_eq] at he; rw [he]; exact hw, fun hm => ⟨s, hm, by simp⟩⟩

theorem fC {p b : Bool} (hb : b = p) (hq : Q (.ret (.bool p) h)) : Q (.ret (.bool b) h) := by rw [hb]; exact hq

theorem aHm {s : ByteArray} (hq : Q (.ret (.bool (lR words s)) h)) : aS Tryz.prog G X 130 [.string s] h Q := by
 refine Wk Tryz.func130 Tryz.ntmps130 (w:=QN (Mb (w:=QL (QU (QN (Ma (w:=QL (Bk (QU (QN (MB (w:=fun hh => Mb (w:=QQ (UA (QR (QN (Mb (w:=QM ?_))))))) (v:=fun hh => Mb (w:=QP (QN (MB (w:=fun hh => Mb (w:=QQ (UA (QR (QN (Mb (w:=QM ?_))))))) (v:=fun hh => Mb (w:=QP (QN (MB (w:=fun hh => Mb (w:=QQ (UA (QR (QN (Mb (w:=QM ?_))))))) (v:=fun hh => Mb (w:=QP (QN (MB (w:=fun hh => Mb (w:=QQ (UA (QR (QN (Mb (w:=QM ?_))))))) (v:=fun hh => Mb (w:=QP (QN (MB (w:=fun hh => Mb (w:=QQ (UA (QR (QN (Mb (w:=QM ?_))))))) (v:=fun hh => Mb (w:=QP (QN (MB (w:=fun hh => Mb (w:=QQ (UA (QR (QN (Mb (w:=QM ?_))))))) (v:=fun hh => Mb (w:=QP (QN (MB (w:=fun hh => Mb (w:=QQ (UA (QR (QN (Mb (w:=QM ?_))))))) (v:=fun hh => Mb (w:=QP (QN (MB (w:=fun hh => Mb (w:=QQ (UA (QR (QN (Mb (w:=QM ?_))))))) (v:=fun hh => Mb (w:=QP (QN (MB (w:=fun hh => Mb (w:=QQ (UA (QR (QN (Mb (w:=QM ?_))))))) (v:=fun hh => Mb (w:=QP (QN (MB (w:=fun hh => Mb (w:=QQ (UA (QR (QN (Mb (w:=QM ?_))))))) (v:=fun hh => Mb (w:=QP (QN (MB (w:=fun hh => Mb (w:=QQ (UA (QR (QN (Mb (w:=QM ?_))))))) (v:=fun hh => Mb (w:=QP (QN (MB (w:=fun hh => Mb (w:=QQ (UA (QR (QN (Mb (w:=QM ?_))))))) (v:=fun hh => Mb (w:=QP (QN (MB (w:=fun hh => Mb (w:=QQ (UA (QR (QN (Mb (w:=QM ?_))))))) (v:=fun hh => Mb (w:=QP (QN (MB (w:=fun hh => Mb (w:=QQ (UA (QR (QN (Mb (w:=QM ?_))))))) (v:=fun hh => Mb (w:=QP (QN (MB (w:=fun hh => Mb (w:=QQ (UA (QR (QN (Mb (w:=QM ?_))))))) (v:=fun hh => Mb (w:=QP (QN (MB (w:=fun hh => Mb (w:=QQ (UA (QR (QN (Mb (w:=QM ?_))))))) (v:=fun hh => Mb (w:=QP (QN (MB (w:=fun hh => Mb (w:=QQ (UA (QR (QN (Mb (w:=QM ?_))))))) (v:=fun hh => Mb (w:=QP (QN (MB (w:=fun hh => Mb (w:=QQ (UA (QR (QN (Mb (w:=QM ?_))))))) (v:=fun hh => Mb (w:=QP (QN (MB (w:=fun hh => Mb (w:=QQ (UA (QR (QN (Mb (w:=QM ?_))))))) (v:=fun hh => Mb (w:=QP (QN (MB (w:=fun hh => Mb (w:=QQ (UA (QR (QN (Mb (w:=QM ?_))))))) (v:=fun hh => Mb (w:=QP (QN (MB (w:=fun hh => Mb (w:=QQ (UA (QR (QN (Mb (w:=QM ?_))))))) (v:=fun hh => Mb (w:=QP (QN (MB (w:=fun hh => Mb (w:=QQ (UA (QR (QN (Mb (w:=QM ?_))))))) (v:=fun hh => Mb (w:=QP (QN (MB (w:=fun hh => Mb (w:=QQ (UA (QR (QN (Mb (w:=QM ?_))))))) (v:=fun hh => Mb (w:=QP (QN (MB (w:=fun hh => Mb (w:=QQ (UA (QR (QN (Mb (w:=QM ?_))))))) (v:=fun hh => Mb (w:=QP (QN (MB (w:=fun hh => Mb (w:=QQ (UA (QR (QN (Mb (w:=QM ?_))))))) (v:=fun hh => Mb (w:=QP (QN (MB (w:=fun hh => Mb (w:=QQ (UA (QR (QN (Mb (w:=QM ?_))))))) (v:=fun hh => Mb (w:=QP (QN (MB (w:=fun hh => Mb (w:=QQ (UA (QR (QN (Mb (w:=QM ?_))))))) (v:=fun hh => Mb (w:=QP (QN (MB (w:=fun hh => Mb (w:=QQ (UA (QR (QN (Mb (w:=QM ?_))))))) (v:=fun hh => Mb (w:=QP (QN (MB (w:=fun hh => Mb (w:=QQ (UA (QR (QN (Mb (w:=QM ?_))))))) (v:=fun hh => Mb (w:=QP (QN (MB (w:=fun hh => Mb (w:=QQ (UA (QR (QN (Mb (w:=QM ?_))))))) (v:=fun hh => Mb (w:=QP (QN (MB (w:=fun hh => Mb (w:=QQ (UA (QR (QN (Mb (w:=QM ?_))))))) (v:=fun hh => Mb (w:=QP (QN (MB (w:=fun hh => Mb (w:=QQ (UA (QR (QN (Mb (w:=QM ?_))))))) (v:=fun hh => Mb (w:=QP (QV (MB (w:=fun hh => Mb (w:=QQ (QN (Mb (w:=QM ?_))))) (v:=fun hh => Mb (w:=QP (UA (QN (Mb (w:=QM ?_)))))))))))))))))))))))))))))))))))))))))))))))))))))))))))))))))))))))))))))))))))))))))))))))))))))))))))))))))))))))))))))))))))))))))))))))))
 all_goals (refine ⟨_, rfl, fC ?_ hq⟩; symm; first
  | (subst hh; decide +kernel)
  | (rw [← Bool.not_eq_true, iN]; intro hm; simp only [words, List.mem_cons, List.not_mem_nil, or_false] at hm; repeat (first | contradiction | (rcases hm with hm | hm))))

theorem aJ8 {j n : Nat} {l : List ByteArray} {s : ByteArray} (ho : h.obj j = some (.cells false (l.map Value.string))) (hn : n = l.length) (hl : l.length ≤ 100000)
  (hq : ∀ r : Int, (0 ≤ r ↔ s ∈ l) → Q (.ret (.int .i64 r) h)) : aS Tryz.prog G X 158 [.slice (some ⟨j, 0, none⟩) n 1, .string s] h Q := by
 refine Wk Tryz.func158 Tryz.ntmps158 (w:=QN (Mb (w:=QL (QU (QN (Ma (w:=Ms (w:=Ma (w:=QL (Bk ?_))))))))))
 refine WC.cB hX (m := fun i : Nat => l.length - i) (Inv := fun i e h' => e 0 = some (.slice (some ⟨j, 0, none⟩) n 1) ∧ e 1 = some (.string s) ∧ e 7 = some (.int .i64 n) ∧ e 8 = some (.int .i64 i) ∧ h' = h ∧ i ≤ l.length ∧ ∀ k, k < i → l[k]? ≠ some s) 0 ⟨rfl, rfl, rfl, rfl, rfl, by omega, by omega⟩ ?_
 intro i env h' ih ⟨e0, e1, e7, e8, eh, hle, hall⟩
 subst eh
 refine QN (MF (w:=fun hh => QL (QU (QR (UA (QU (Bk (QN (Ma (w:=Mb (w:=QO (Ma (w:=Ma (w:=Ma (w:=Ml (w:=QK ?_))))))))))))))) (v:=fun hh => QL (QU (QS (WC.exit (aH (QN (Mb (w:=QM ?_)))))))))
 ·have hi : i < l.length := by omega
  refine WS.jC (v := .string l[i]) (hc := ?_) (hk := ?_)
  ·simp [hi]
  refine MB (w:=fun hh => QQ (QN (Ma (w:=Mb (w:=QM ?_))))) (v:=fun hh => QP (UA (QV (Mf (w:=Ma (w:=QL ?_))))))
  ·refine ⟨_, rfl, hq _ ⟨fun _ => ?_, fun _ => by omega⟩⟩
   rw [hh]; exact List.getElem_mem hi
  ·refine ih (i + 1) _ _ (by omega) ⟨e0, e1, e7, rfl, rfl, hi, fun k hk => ?_⟩
   rcases Nat.lt_succ_iff_lt_or_eq.1 hk with hk | rfl
   ·exact hall k hk
   ·rw [List.getElem?_eq_getElem hi]; intro e; cases e; exact hh rfl
 ·refine ⟨_, rfl, hq _ ⟨fun hc => by omega, fun hm => ?_⟩⟩
  obtain ⟨k, hk, he⟩ := List.getElem_of_mem hm
  exact (hall k (by omega) (by rw [List.getElem?_eq_getElem hk, he])).elim

theorem oG {j n : Nat} {l : List ByteArray} {s : ByteArray} (ho : h.obj j = some (.cells false (l.map Value.string))) (hn : n = l.length) (hl : l.length ≤ 100000)
  (hq : Q (.ret (.bool (lR l s)) h)) : aS Tryz.prog G X 133 [.slice (some ⟨j, 0, none⟩) n 1, .string s] h Q := by
 refine Wk Tryz.func133 Tryz.ntmps133 (w:=QN (Mb (w:=QO (Ma (w:=Ma (w:=QK ?_))))))
 ·refine QJ aPe ?_
  refine aJ8 ho hn hl fun r hr => ?_
  refine MI (w:=fun hh => Mb (w:=QM ?_)) (v:=fun hh => Mb (w:=QM ?_))
  ·refine ⟨_, rfl, fC ?_ hq⟩
   rw [(iN).2 (hr.1 hh)]
  ·refine ⟨_, rfl, fC ?_ hq⟩
   symm; rw [← Bool.not_eq_true, iN, ← hr]; exact hh

def aA4 : List ByteArray := [⟨#[98, 114, 101, 97, 107]⟩, ⟨#[99, 111, 110, 116, 105, 110, 117, 101]⟩, ⟨#[102, 97, 108, 108, 116, 104, 114, 111, 117, 103, 104]⟩, ⟨#[114, 101, 116, 117, 114, 110]⟩, ⟨#[116, 114, 117, 101]⟩, ⟨#[102, 97, 108, 115, 101]⟩, ⟨#[110, 105, 108]⟩, ⟨#[105, 110, 116]⟩, ⟨#[98, 111, 111, 108]⟩, ⟨#[115, 116, 114, 105, 110, 103]⟩]
def aA3 : List ByteArray := [⟨#[43, 43]⟩, ⟨#[45, 45]⟩, ⟨#[41]⟩, ⟨#[93]⟩, ⟨#[125]⟩]

def lL (t : Tok) : Bool := if t.kind = 1 ∨ t.kind = 2 ∨ t.kind = 3 then true else if t.kind = 4 then lR aA4 t.text else if t.kind = 5 then lR aA3 t.text else false
def mJ (l : List Tok) : Bool := match l.getLast? with
 | none => false
 | some t => lL t

theorem pP {h h' : aA} {s : Nat} (hs : s ≤ h.next) (g : Gr h h') : Fr s h h' := ⟨g.1, fun j hj => g.2 j (by omega)⟩
theorem Sc.grow {h h' : aA} {s : Nat} {k : Nat} {l : List Tok} (hs : Sc h s src k l) (g : Gr h h') : Sc h' s src k l := by
 obtain ⟨hlt, b, n, es, ho, ht⟩ := hs
 exact ⟨Nat.lt_of_lt_of_le hlt g.1, b, n, es, (g.2 s hlt).trans ho, ht.mono g.1 fun j _ hj => g.2 j hj⟩

theorem rX {l : List Tok} {i : Nat} {t : Tok} (h : l[i]? = some t) : ((cellsOf l).drop (i * 4)).take 4 = t.cells := by
 induction l generalizing i with
 | nil => simp at h
 | cons a l ih =>
  cases i with
  | zero => simp at h; subst h; simp [cellsOf, Tok.cells]
  | succ i =>
   simp at h
   rw [← ih h]
   simp only [cellsOf, List.flatMap_cons]
   rw [List.drop_append]
   have : a.cells.length = 4 := rfl
   rw [List.drop_of_length_le (by rw [this]; omega), List.nil_append]
   rw [this, show (i + 1) * 4 - 4 = i * 4 by omega]

theorem aMv {s : Nat} {k : Nat} {l : List Tok} (hs : Sc h s src k l) (hl : l.length ≤ 100000)
  (hq : ∀ h', Gr h h' → Q (.ret (.bool (mJ l)) h')) : aS Tryz.prog G X 109 [.pointer (some ⟨s, 0, none⟩)] h Q := by
 obtain ⟨hlt, b, n, es, ho, ht⟩ := hs
 have hlen := ht.len
 refine Wk Tryz.func109 Tryz.ntmps109 (w:=?_)
 refine QN (Mb (w:=QL (QU (QN (Ma (w:=Mi (w:=Mj (w:=Mt (w:=Ms (w:=MD (w:=fun hh => QQ (QN (Mb (w:=QM ?_)))) (v:=fun hh => QP (UA (QU (QU (Gd [⟨0, .pure, 0⟩, ⟨1, .pure, 1⟩, ⟨2, .pure, 3⟩, ⟨3, .read, 7⟩, ⟨4, .pure, 0⟩, ⟨5, .pure, 16⟩, ⟨6, .pure, 48⟩, ⟨7, .read, 112⟩, ⟨8, .read, 240⟩, ⟨9, .pure, 496⟩, ⟨10, .pure, 1023⟩, ⟨11, .read, 2047⟩, ⟨12, .alloc, 0⟩, ⟨13, .aF, 8191⟩] (w:=Da (w:=Di (w:=Dj (w:=Rt (w:=Da (w:=Di (w:=Dj (w:=Rt (w:=Rs (w:=?_)))))))))))))))))))))))));rotate_left;refine QW (k := Qg ?_);refine WD.pure (hw := ?_);rotate_left
 ·have : l = [] := List.eq_nil_of_length_eq_zero (by omega)
  subst this
  exact ⟨_, rfl, hq _ (Gr.refl _)⟩
 ·rcases ht with ⟨_, rfl, _, _⟩ | ⟨i, rfl, h1, h2, rfl, _, h3⟩
  ·omega
  have hne : l ≠ [] := by intro e; subst e; simp at hlen; omega
  obtain ⟨t, hlast⟩ : ∃ t, l.getLast? = some t := ⟨l.getLast hne, List.getLast?_eq_some_getLast hne⟩
  have hget : l[n - 1]? = some t := by rw [hlen, ← List.getLast?_eq_getElem?]; exact hlast
  have hq' : ∀ h', Gr h h' → Q (.ret (.bool (lL t)) h') := by
   intro h' g; have := hq h' g; unfold mJ at this; rw [hlast] at this; exact this
  refine WS.indexAddr (hk := ?_);refine WD.read (hw := ?_)
  refine WS.pT (vs := t.cells) (hc := ?_) (hv' := ?_) (hk := ?_)
  (· rw [gK]; omega); (· rw [show 0 + ((n : Int) - 1).toNat * 4 = (n - 1) * 4 by omega, rX hget]; rfl)
  refine WD.alloc (hw := Qw ?_);refine WD.aF hX (hw := Qv ?_);refine WD.nil (hq:=QN (Mj (w:=Mt (w:=QL (Bk (QU (QN (MD (w:=fun hh => Mb (w:=QQ (UA (QR (QN (Mb (w:=QM ?_))))))) (v:=fun hh => Mb (w:=QP (QN (MD (w:=fun hh => Mb (w:=QQ (UA (QR (QN (Mb (w:=QM ?_))))))) (v:=fun hh => Mb (w:=QP (QV (MD (w:=fun hh => Mb (w:=QQ (QN (Mb (w:=QM ?_))))) (v:=fun hh => Mb (w:=QP (QN (MD (w:=fun hh => Mb (w:=QQ (QN (My (w:=Mj (w:=Mt (w:=QK ?_))))))) (v:=fun hh => Mb (w:=QP (QN (MD (w:=fun hh => Mb (w:=QQ (QN (My (w:=Mj (w:=Mt (w:=QK ?_))))))) (v:=fun hh => Mb (w:=QP (UA (QN (Mb (w:=QM ?_))))))))))))))))))))))))))))))
  ·refine ⟨_, rfl, fC ?_ (hq' _ fG)⟩
   simp [lL, hh]
  ·refine ⟨_, rfl, fC ?_ (hq' _ fG)⟩
   simp [lL, hh]
  ·refine ⟨_, rfl, fC ?_ (hq' _ fG)⟩
   simp [lL, hh]
  ·skip
   refine QJ aD8 ?_
   refine oG (l := aA4) cY rfl (by decide) ?_
   refine Mb (w:=QM ?_)
   refine ⟨_, rfl, fC ?_ (hq' _ fG)⟩
   simp [lL, hh]
  ·skip
   refine QJ aD8 ?_
   refine oG (l := aA3) cY rfl (by decide) ?_
   refine Mb (w:=QM ?_)
   refine ⟨_, rfl, fC ?_ (hq' _ fG)⟩
   simp [lL, hh]
  ·refine ⟨_, rfl, fC ?_ (hq' _ fG)⟩
   simp [lL, *]

def iI (k : Nat) (l : List Tok) : List Tok := if mJ l then l ++ [⟨5, ⟨#[59]⟩, 1, k⟩] else l

theorem aHs {s : Nat} {k : Nat} {l : List Tok} (hs : Sc h s src k l) (hl : l.length ≤ 100000) (hk : k ≤ 100000)
  (hq : ∀ h', Sc h' s src k (iI k l) → Fr s h h' → Q (.ret (.tuple #[]) h')) : aS Tryz.prog G X 83 [.pointer (some ⟨s, 0, none⟩)] h Q := by
 refine Wk Tryz.func83 Tryz.ntmps83 (w:=QN (Ma (w:=MJ aO3 (w:=aMv hs hl fun h1 g => ?_))))
 have fr1 : Fr s h h1 := pP (by have := hs.1; omega) g
 refine QL (WC.aD4 hX (h1 := fun hh => QV (Ma (w:=QK ?_))) (h2 := fun hh => UA ?_))
 ·refine QJ xZ ?_
  refine qR (size := 0) (hs.grow g) hl hk (by omega) fun h2 hs2 fr2 => ?_
  refine QL ?_
  refine ⟨_, rfl, hq _ ?_ (fr1.trans fr2)⟩
  unfold iI
  rw [if_pos hh]
  exact hs2
 ·refine ⟨_, rfl, hq _ ?_ fr1⟩
  unfold iI
  rw [hh]
  exact hs.grow g

end Go.Proofs.ZL
end
