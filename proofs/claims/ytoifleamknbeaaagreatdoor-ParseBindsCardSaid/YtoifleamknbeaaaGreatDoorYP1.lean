/- The parser, first part: its pure form, trees, types. -/
import Derived.Test.YtoifleamknbeaaaGreatDoorYL1
section
open Go Go.Am
namespace Go.Proofs.ZL

inductive Nd where
 | mk (kind : Int) (text : ByteArray) (num pos : Int) (typ : ByteArray) (ref : Int) (kids : List Nd)

def Nd.kind : Nd → Int | .mk k _ _ _ _ _ _ => k
def Nd.text : Nd → ByteArray | .mk _ t _ _ _ _ _ => t
def Nd.num : Nd → Int | .mk _ _ n _ _ _ _ => n
def Nd.pos : Nd → Int | .mk _ _ _ p _ _ _ => p
def Nd.typ : Nd → ByteArray | .mk _ _ _ _ t _ _ => t
def Nd.ref : Nd → Int | .mk _ _ _ _ _ r _ => r
def Nd.kids : Nd → List Nd | .mk _ _ _ _ _ _ k => k

structure St where
 k : Nat
 bare : Bool
def St.next (s : St) : St := ⟨s.k + 1, s.bare⟩
def St.goto (s : St) (k : Nat) : St := ⟨k, s.bare⟩
def St.with (s : St) (b : Bool) : St := ⟨s.k, b⟩

inductive R (α : Type) where
 | ok (a : α) (s : St)
 | bad (e : Nat)
 | out
def R.then {α β : Type} (r : R α) (f : α → St → R β) : R β := match r with
 | .ok a s => f a s
 | .bad p => .bad p
 | .out => .out
theorem R.then_ok {α β : Type} (a : α) (s : St) (f : α → St → R β) : (R.ok a s).then f = f a s := rfl
theorem R.then_bad {α β : Type} (p : Nat) (f : α → St → R β) : (R.bad p : R α).then f = .bad p := rfl
theorem R.then_assoc {α β γ : Type} (r : R α) (f : α → St → R β) (g : β → St → R γ) : (r.then f).then g = r.then fun a s => (f a s).then g := by cases r <;> rfl
theorem R.then_out {α β : Type} (f : α → St → R β) : (R.out : R α).then f = .out := rfl

abbrev PF (α : Type) := List Tok → Bool → St → R α

def tokAt (L : List Tok) (k : Nat) : Tok := L.getD k ⟨6, (⟨#[]⟩ : ByteArray), 0, 0⟩
def isTok (t : Tok) (ts : List ByteArray) : Bool := (decide (t.kind = 4) || decide (t.kind = 5)) && inS ts t.text
def isR (L : List Tok) (s : St) (ts : List ByteArray) : Bool := isTok (tokAt L s.k) ts
def failR {α : Type} (_ : List Tok) (s : St) : R α := .bad s.k
def wantR (L : List Tok) (s : St) (t : ByteArray) : R Tok := if isR L s [t] then .ok (tokAt L s.k) s.next else failR L s
def gotS (L : List Tok) (s : St) (t : ByteArray) : St := if isR L s [t] then s.next else s
def nameR (L : List Tok) (s : St) : R Tok := if (tokAt L s.k).kind = 1 then .ok (tokAt L s.k) s.next else failR L s

def noneN : Nd := .mk 8 (⟨#[]⟩ : ByteArray) 0 0 (⟨#[]⟩ : ByteArray) 0 []
def nd (kind : Int) (t : Tok) (text : ByteArray) (kids : List Nd) : Nd := .mk kind text 0 t.pos (⟨#[]⟩ : ByteArray) 0 kids
def ndAt (kind : Int) (pos : Int) (text : ByteArray) (kids : List Nd) : Nd := .mk kind text 0 pos (⟨#[]⟩ : ByteArray) 0 kids

structure Rec where
 typ : PF Nd
 function : PF (List Nd)
 block : PF Nd
 stmts : PF (List Nd)
 stmt : PF Nd
 nested : PF Nd
 branch : PF Nd
 expr : PF Nd
 binary : Int → PF Nd
 unary : PF Nd
 primary : PF Nd
 simple : PF Nd

def Rec.none : Rec := ⟨fun _ _ _ => .out, fun _ _ _ => .out, fun _ _ _ => .out, fun _ _ _ => .out, fun _ _ _ => .out, fun _ _ _ => .out, fun _ _ _ => .out, fun _ _ _ => .out, fun _ _ _ _ => .out, fun _ _ _ => .out, fun _ _ _ => .out, fun _ _ _ => .out⟩

def untilR {α : Type} (L : List Tok) (ts : List ByteArray) (f : α → St → R α) : Nat → α → St → R α
 | 0, _, _ => .out
 | n + 1, a, s => if isR L s ts then .ok a s else (f a s).then fun a s => untilR L ts f n a s

def typeTexts : List ByteArray := [(⟨#[105, 110, 116]⟩ : ByteArray), (⟨#[98, 111, 111, 108]⟩ : ByteArray), (⟨#[115, 116, 114, 105, 110, 103]⟩ : ByteArray), (⟨#[42]⟩ : ByteArray), (⟨#[91]⟩ : ByteArray), (⟨#[99, 104, 97, 110]⟩ : ByteArray), (⟨#[102, 117, 110, 99]⟩ : ByteArray)]
def endTexts : List ByteArray := [(⟨#[125]⟩ : ByteArray), (⟨#[99, 97, 115, 101]⟩ : ByteArray), (⟨#[100, 101, 102, 97, 117, 108, 116]⟩ : ByteArray)]

def sepR (L : List Tok) (s : St) (first : Bool) : R Unit := if first then .ok () s else (wantR L s (⟨#[44]⟩ : ByteArray)).then fun _ s => .ok () s

def typF (n : Nat) (r : Rec) : PF Nd := fun L hd s =>
 if isR L s typeTexts then
  let t := tokAt L s.k
  if t.text = (⟨#[105, 110, 116]⟩ : ByteArray) then .ok (nd 9 t (⟨#[]⟩ : ByteArray) []) s.next
  else if t.text = (⟨#[98, 111, 111, 108]⟩ : ByteArray) then .ok (nd 10 t (⟨#[]⟩ : ByteArray) []) s.next
  else if t.text = (⟨#[115, 116, 114, 105, 110, 103]⟩ : ByteArray) then .ok (nd 11 t (⟨#[]⟩ : ByteArray) []) s.next
  else if t.text = (⟨#[42]⟩ : ByteArray) then (nameR L s.next).then fun x s => .ok (nd 12 t x.text []) s
  else if t.text = (⟨#[91]⟩ : ByteArray) then (wantR L s.next (⟨#[93]⟩ : ByteArray)).then fun _ s => (r.typ L hd s).then fun x s => .ok (nd 13 t (⟨#[]⟩ : ByteArray) [x]) s
  else if t.text = (⟨#[99, 104, 97, 110]⟩ : ByteArray) then (r.typ L hd s.next).then fun x s => .ok (nd 14 t (⟨#[]⟩ : ByteArray) [x]) s
  else (wantR L s.next (⟨#[40]⟩ : ByteArray)).then fun _ s =>
   (untilR L [(⟨#[41]⟩ : ByteArray)] (fun kids s => (sepR L s kids.isEmpty).then fun _ s => (r.typ L hd s).then fun x s => .ok (kids ++ [x]) s) n [] s).then fun kids s =>
   let s := s.next
   if isR L s typeTexts then (r.typ L hd s).then fun x s => .ok (nd 15 t (⟨#[]⟩ : ByteArray) (kids ++ [x])) s
   else .ok (nd 15 t (⟨#[]⟩ : ByteArray) (kids ++ [noneN])) s
 else failR L s

def functionF (n : Nat) (r : Rec) : PF (List Nd) := fun L hd s =>
 (wantR L s (⟨#[40]⟩ : ByteArray)).then fun t s =>
 (untilR L [(⟨#[41]⟩ : ByteArray)] (fun kids s => (sepR L s kids.isEmpty).then fun _ s => (nameR L s).then fun x s => (r.typ L hd s).then fun y s => .ok (kids ++ [nd 7 x x.text [y]]) s) n [] s).then fun kids s =>
 let s := s.next
 (if isR L s [(⟨#[123]⟩ : ByteArray)] then .ok noneN s else r.typ L hd s).then fun result s =>
 (r.block L false s).then fun b s => .ok [nd 6 t (⟨#[]⟩ : ByteArray) kids, result, b] s

def blockF (r : Rec) : PF Nd := fun L hd s =>
 (wantR L s (⟨#[123]⟩ : ByteArray)).then fun t s => (r.stmts L hd s).then fun kids s => (wantR L s (⟨#[125]⟩ : ByteArray)).then fun _ s => .ok (nd 16 t (⟨#[]⟩ : ByteArray) kids) s

def stmtsGo (r : Rec) (L : List Tok) (hd : Bool) : Nat → List Nd → St → R (List Nd)
 | 0, _, _ => .out
 | n + 1, out, s =>
  if isR L s [(⟨#[59]⟩ : ByteArray)] then stmtsGo r L hd n out s.next
  else if isR L s endTexts then .ok out s
  else (r.stmt L hd s).then fun x s =>
   (if isR L s endTexts then .ok () s else (wantR L s (⟨#[59]⟩ : ByteArray)).then fun _ s => .ok () s).then fun _ s => stmtsGo r L hd n (out ++ [x]) s
def stmtsF (n : Nat) (r : Rec) : PF (List Nd) := fun L hd s => stmtsGo r L hd n [] s

def valueN (n : Nd) : Bool := decide (n.text = (⟨#[109, 97, 107, 101]⟩ : ByteArray)) || decide (n.text = (⟨#[110, 101, 119]⟩ : ByteArray))
def calledN (n : Nd) : Bool := decide (n.kind = 43) || (decide (n.kind = 44) && !valueN n)
def targetN (n : Nd) : Bool := decide (n.kind = 40) || decide (n.kind = 45) || decide (n.kind = 47)

def callF (r : Rec) : PF Nd := fun L hd s =>
 (r.primary L hd s).then fun n s => if !calledN n || s.bare then failR L s else .ok n s

def restF (r : Rec) (n : Nd) (bare : Bool) : PF Nd := fun L hd s =>
 let t := tokAt L s.k
 if isR L s [(⟨#[58, 61]⟩ : ByteArray)] && decide (n.kind = 40) && !bare then (r.expr L hd s.next).then fun e s => .ok (ndAt 17 n.pos n.text [e]) s
 else if isR L s [(⟨#[61]⟩ : ByteArray), (⟨#[43, 61]⟩ : ByteArray), (⟨#[45, 61]⟩ : ByteArray), (⟨#[42, 61]⟩ : ByteArray)] && targetN n && !bare then (r.expr L hd s.next).then fun e s => .ok (nd 19 t t.text [n, e]) s
 else if isR L s [(⟨#[43, 43]⟩ : ByteArray), (⟨#[45, 45]⟩ : ByteArray)] && targetN n && !bare then .ok (nd 20 t t.text [n]) s.next
 else if isR L s [(⟨#[60, 45]⟩ : ByteArray)] then (r.expr L hd s.next).then fun e s => .ok (nd 33 t (⟨#[]⟩ : ByteArray) [n, e]) s
 else if calledN n && !bare then .ok (ndAt 34 n.pos (⟨#[]⟩ : ByteArray) [n]) s
 else failR L s

def simpleF (r : Rec) : PF Nd := fun L hd s =>
 if isR L s [(⟨#[60, 45]⟩ : ByteArray)] then
  let t := tokAt L s.k
  (r.unary L hd s.next).then fun u s => .ok (nd 34 t (⟨#[]⟩ : ByteArray) [nd 41 t (⟨#[60, 45]⟩ : ByteArray) [u]]) s
 else (r.primary L hd s).then fun n s => restF r n s.bare L hd s

def isMark (t : Tok) (x : ByteArray) : Bool := decide (t.kind = 5) && decide (t.text = x)

def plainF (r : Rec) : PF Nd := fun L hd s =>
 let t := tokAt L s.k
 if decide (t.kind = 1) && isMark (tokAt L (s.k + 1)) (⟨#[58]⟩ : ByteArray) then
  let s := s.goto (s.k + 2)
  if isR L s [(⟨#[102, 111, 114]⟩ : ByteArray), (⟨#[115, 119, 105, 116, 99, 104]⟩ : ByteArray), (⟨#[115, 101, 108, 101, 99, 116]⟩ : ByteArray)] then (r.nested L hd s).then fun x s => .ok (nd 35 t t.text [x]) s
  else failR L s
 else r.simple L hd s

def stmtF (r : Rec) : PF Nd := fun L hd s =>
 let t := tokAt L s.k
 if t.kind ≠ 4 then (if isR L s [(⟨#[123]⟩ : ByteArray)] then r.block L hd s else plainF r L hd s)
 else if t.text = (⟨#[118, 97, 114]⟩ : ByteArray) then
  (nameR L s.next).then fun n s => (r.typ L hd s).then fun ty s =>
  (if isR L s [(⟨#[61]⟩ : ByteArray)] then r.expr L hd s.next else .ok noneN s).then fun e s => .ok (nd 18 t n.text [ty, e]) s
 else if t.text = (⟨#[105, 102]⟩ : ByteArray) then r.branch L hd s
 else if t.text = (⟨#[102, 111, 114]⟩ : ByteArray) ∨ t.text = (⟨#[115, 119, 105, 116, 99, 104]⟩ : ByteArray) ∨ t.text = (⟨#[115, 101, 108, 101, 99, 116]⟩ : ByteArray) then r.nested L hd s
 else if t.text = (⟨#[98, 114, 101, 97, 107]⟩ : ByteArray) ∨ t.text = (⟨#[99, 111, 110, 116, 105, 110, 117, 101]⟩ : ByteArray) then
  let s := s.next
  let kind : Int := if t.text = (⟨#[98, 114, 101, 97, 107]⟩ : ByteArray) then 27 else 28
  if (tokAt L s.k).kind = 1 then .ok (nd kind t (tokAt L s.k).text []) s.next else .ok (nd kind t (⟨#[]⟩ : ByteArray) []) s
 else if t.text = (⟨#[102, 97, 108, 108, 116, 104, 114, 111, 117, 103, 104]⟩ : ByteArray) then .ok (nd 29 t (⟨#[]⟩ : ByteArray) []) s.next
 else if t.text = (⟨#[114, 101, 116, 117, 114, 110]⟩ : ByteArray) then
  let s := s.next
  if isR L s [(⟨#[59]⟩ : ByteArray), (⟨#[125]⟩ : ByteArray), (⟨#[99, 97, 115, 101]⟩ : ByteArray), (⟨#[100, 101, 102, 97, 117, 108, 116]⟩ : ByteArray)] then .ok (nd 30 t (⟨#[]⟩ : ByteArray) [noneN]) s else (r.expr L hd s).then fun e s => .ok (nd 30 t (⟨#[]⟩ : ByteArray) [e]) s
 else if t.text = (⟨#[103, 111]⟩ : ByteArray) ∨ t.text = (⟨#[100, 101, 102, 101, 114]⟩ : ByteArray) then
  (callF r L hd s.next).then fun c s => .ok (nd (if t.text = (⟨#[100, 101, 102, 101, 114]⟩ : ByteArray) then 32 else 31) t (⟨#[]⟩ : ByteArray) [c]) s
 else plainF r L hd s

def branchF (r : Rec) : PF Nd := fun L hd s =>
 let t := tokAt L s.k
 if t.kind = 6 then .out else
 (r.expr L true s.next).then fun c s => (r.block L hd s).then fun b s =>
 (if isR L s [(⟨#[101, 108, 115, 101]⟩ : ByteArray)] then
  let s := s.next
  if isR L s [(⟨#[105, 102]⟩ : ByteArray)] then r.branch L hd s else r.block L hd s
 else .ok noneN s).then fun o s => .ok (nd 21 t (⟨#[]⟩ : ByteArray) [c, b, o]) s

def behindF (r : Rec) : PF Nd := fun L hd s => (wantR L s (⟨#[58]⟩ : ByteArray)).then fun t s => (r.stmts L hd s).then fun kids s => .ok (nd 16 t (⟨#[]⟩ : ByteArray) kids) s

def commasGo (r : Rec) (L : List Tok) (hd : Bool) : Nat → List Nd → St → R (List Nd)
 | 0, _, _ => .out
 | n + 1, kids, s => if isR L s [(⟨#[44]⟩ : ByteArray)] then (r.expr L hd s.next).then fun e s => commasGo r L hd n (kids ++ [e]) s else .ok kids s

def clauseF (n : Nat) (r : Rec) : PF Nd := fun L hd s =>
 let t := tokAt L s.k
 if isR L s [(⟨#[100, 101, 102, 97, 117, 108, 116]⟩ : ByteArray)] then (behindF r L hd s.next).then fun b s => .ok (nd 24 t (⟨#[100, 101, 102, 97, 117, 108, 116]⟩ : ByteArray) [b]) s
 else (wantR L s (⟨#[99, 97, 115, 101]⟩ : ByteArray)).then fun _ s => (r.expr L hd s).then fun e s => (commasGo r L hd n [e] s).then fun kids s =>
  (behindF r L hd s).then fun b s => .ok (nd 24 t (⟨#[99, 97, 115, 101]⟩ : ByteArray) (kids ++ [b])) s

def commF (r : Rec) : PF Nd := fun L hd s =>
 let t := tokAt L s.k
 if isR L s [(⟨#[100, 101, 102, 97, 117, 108, 116]⟩ : ByteArray)] then (behindF r L hd s.next).then fun b s => .ok (nd 26 t (⟨#[100, 101, 102, 97, 117, 108, 116]⟩ : ByteArray) [b]) s
 else (wantR L s (⟨#[99, 97, 115, 101]⟩ : ByteArray)).then fun _ s =>
  let n := tokAt L s.k
  (if decide (n.kind = 1) && isMark (tokAt L (s.k + 1)) (⟨#[58, 61]⟩ : ByteArray) then
   (if isR L (s.goto (s.k + 2)) [(⟨#[60, 45]⟩ : ByteArray)] then .ok [nd 7 n n.text []] (s.goto (s.k + 2)) else failR L (s.goto (s.k + 2)))
  else .ok [] s).then fun kids s =>
  if isR L s [(⟨#[60, 45]⟩ : ByteArray)] then (r.unary L hd s.next).then fun u s => (behindF r L hd s).then fun b s => .ok (nd 26 t (⟨#[114, 101, 99, 118]⟩ : ByteArray) (kids ++ [u] ++ [b])) s
  else (r.primary L hd s).then fun c s => (wantR L s (⟨#[60, 45]⟩ : ByteArray)).then fun _ s => (r.expr L hd s).then fun e s => (behindF r L hd s).then fun b s => .ok (nd 26 t (⟨#[115, 101, 110, 100]⟩ : ByteArray) [c, e, b]) s

def clausesF (n : Nat) (one : PF Nd) : PF (List Nd) := fun L _ s =>
 (wantR L s (⟨#[123]⟩ : ByteArray)).then fun _ s => (untilR L [(⟨#[125]⟩ : ByteArray)] (fun out s => (one L false s).then fun x s => .ok (out ++ [x]) s) n [] s).then fun out s => .ok out s.next

def firstF (r : Rec) : PF (Nd × Bool) := fun L _ s0 =>
 (r.expr L true s0).then fun e s =>
 let single0 := !isR L s0 [(⟨#[45]⟩ : ByteArray), (⟨#[33]⟩ : ByteArray), (⟨#[60, 45]⟩ : ByteArray)]
 let receives := decide (e.kind = 41) && decide (e.text = (⟨#[60, 45]⟩ : ByteArray)) && isR L s0 [(⟨#[60, 45]⟩ : ByteArray)]
 let single := (single0 && decide (e.kind ≠ 42)) || (decide (e.kind = 42) && s.bare)
 if isR L s [(⟨#[123]⟩ : ByteArray)] then .ok (e, false) s
 else if receives then (if isR L s [(⟨#[59]⟩ : ByteArray)] then .ok (ndAt 34 e.pos (⟨#[]⟩ : ByteArray) [e], true) s else failR L s)
 else if !single then failR L s
 else (restF r e s.bare L true s).then fun x s => if isR L s [(⟨#[59]⟩ : ByteArray)] then .ok (x, true) s else failR L s

def loopC (r : Rec) (t : Tok) (L : List Tok) (hd : Bool) (f : Nd) (cl : Nd × Nd) (s : St) : R Nd := (r.block L hd s).then fun b s => .ok (nd 22 t (⟨#[]⟩ : ByteArray) [f, cl.1, cl.2, b]) s
def loopB (r : Rec) (t : Tok) (L : List Tok) (hd : Bool) (fc : Nd × Nd) (s : St) : R Nd :=
 (if isR L s [(⟨#[59]⟩ : ByteArray)] then
  (if isR L s.next [(⟨#[59]⟩ : ByteArray)] then .ok fc.2 s.next else r.expr L true s.next).then fun c s =>
  (wantR L s (⟨#[59]⟩ : ByteArray)).then fun _ s =>
  (if isR L s [(⟨#[123]⟩ : ByteArray)] then .ok noneN s else r.simple L true s).then fun l s => .ok (c, l) s
 else .ok (fc.2, noneN) s).then (loopC r t L hd fc.1)
def loopF (r : Rec) (t : Tok) : PF Nd := fun L hd s =>
  (if isR L s [(⟨#[123]⟩ : ByteArray), (⟨#[59]⟩ : ByteArray)] then .ok (noneN, noneN) s
   else (firstF r L hd s).then fun x s => .ok (if x.2 then (x.1, noneN) else (noneN, x.1)) s).then (loopB r t L hd)

def nestedF (n : Nat) (r : Rec) : PF Nd := fun L hd s =>
 let t := tokAt L s.k
 if t.kind = 6 then .out else
 let s := s.next
 if t.text = (⟨#[102, 111, 114]⟩ : ByteArray) then loopF r t L hd s
 else if t.text = (⟨#[115, 119, 105, 116, 99, 104]⟩ : ByteArray) then
  (if isR L s [(⟨#[123]⟩ : ByteArray)] then .ok noneN s else r.expr L true s).then fun e s => (clausesF n (clauseF n r) L hd s).then fun cs s => .ok (nd 23 t (⟨#[]⟩ : ByteArray) (e :: cs)) s
 else (clausesF n (commF r) L hd s).then fun cs s => .ok (nd 25 t (⟨#[]⟩ : ByteArray) cs) s

def level (t : Tok) : Int :=
 if t.kind ≠ 5 then 0
 else if t.text = (⟨#[124, 124]⟩ : ByteArray) then 1
 else if t.text = (⟨#[38, 38]⟩ : ByteArray) then 2
 else if inS [(⟨#[61, 61]⟩ : ByteArray), (⟨#[33, 61]⟩ : ByteArray), (⟨#[60]⟩ : ByteArray), (⟨#[60, 61]⟩ : ByteArray), (⟨#[62]⟩ : ByteArray), (⟨#[62, 61]⟩ : ByteArray)] t.text then 3
 else if inS [(⟨#[43]⟩ : ByteArray), (⟨#[45]⟩ : ByteArray)] t.text then 4
 else if inS [(⟨#[42]⟩ : ByteArray), (⟨#[47]⟩ : ByteArray), (⟨#[37]⟩ : ByteArray)] t.text then 5
 else 0

def binaryGo (r : Rec) (least : Int) (L : List Tok) (hd : Bool) : Nat → Nd → St → R Nd
 | 0, _, _ => .out
 | n + 1, left, s =>
  let t := tokAt L s.k
  if level t < least ∨ level t = 0 then .ok left s
  else (r.binary (level t + 1) L hd s.next).then fun right s => binaryGo r least L hd n (nd 42 t t.text [left, right]) (s.with false)
def binaryF (n : Nat) (r : Rec) (least : Int) : PF Nd := fun L hd s => (r.unary L hd s).then fun u s => binaryGo r least L hd n u s

def unaryF (r : Rec) : PF Nd := fun L hd s =>
 if isR L s [(⟨#[45]⟩ : ByteArray), (⟨#[33]⟩ : ByteArray), (⟨#[60, 45]⟩ : ByteArray)] then
  let t := tokAt L s.k
  (r.unary L hd s.next).then fun u s => .ok (nd 41 t t.text [u]) (s.with false)
 else r.primary L hd s

def exprsF (n : Nat) (r : Rec) (e : ByteArray) : PF (List Nd) := fun L hd s =>
 (untilR L [e] (fun out s => (sepR L s out.isEmpty).then fun _ s => (r.expr L hd s).then fun x s => .ok (out ++ [x]) s) n [] s).then fun out s => .ok out s.next

def commaR (L : List Tok) (s : St) : R Unit := if isR L s [(⟨#[125]⟩ : ByteArray)] then .ok () s else (wantR L s (⟨#[44]⟩ : ByteArray)).then fun _ s => .ok () s

def itemsGo (r : Rec) (L : List Tok) (hd : Bool) (one : St → R Nd) : Nat → List Nd → St → R (List Nd)
 | 0, _, _ => .out
 | n + 1, out, s => if isR L s [(⟨#[125]⟩ : ByteArray)] then .ok out s.next else (one s).then fun x s => (commaR L s).then fun _ s => itemsGo r L hd one n (out ++ [x]) s

def markedF (n : Nat) (r : Rec) (t : Tok) : PF Nd := fun L hd s =>
 if t.text = (⟨#[40]⟩ : ByteArray) then (r.expr L false s.next).then fun e s => (wantR L s (⟨#[41]⟩ : ByteArray)).then fun _ s => .ok e s
 else if hd then failR L s
 else if t.text = (⟨#[38]⟩ : ByteArray) then
  (nameR L s.next).then fun x s => (wantR L s (⟨#[123]⟩ : ByteArray)).then fun _ s =>
  (itemsGo r L hd (fun s => (nameR L s).then fun y s => (wantR L s (⟨#[58]⟩ : ByteArray)).then fun _ s => (r.expr L hd s).then fun e s => .ok (nd 5 y y.text [e]) s) n [] s).then fun kids s =>
  .ok (nd 49 t x.text kids) s
 else if t.text = (⟨#[91]⟩ : ByteArray) then
  (wantR L s.next (⟨#[93]⟩ : ByteArray)).then fun _ s => (r.typ L hd s).then fun ty s => (wantR L s (⟨#[123]⟩ : ByteArray)).then fun _ s =>
  (itemsGo r L hd (fun s => r.expr L hd s) n [ty] s).then fun kids s => .ok (nd 50 t (⟨#[]⟩ : ByteArray) kids) s
 else failR L s

def callTexts : List ByteArray := [(⟨#[97, 112, 112, 101, 110, 100]⟩ : ByteArray), (⟨#[99, 97, 112]⟩ : ByteArray), (⟨#[99, 108, 111, 115, 101]⟩ : ByteArray), (⟨#[108, 101, 110]⟩ : ByteArray), (⟨#[112, 97, 110, 105, 99]⟩ : ByteArray), (⟨#[112, 114, 105, 110, 116]⟩ : ByteArray), (⟨#[114, 101, 99, 111, 118, 101, 114]⟩ : ByteArray)]

def wordedF (n : Nat) (r : Rec) (t : Tok) : PF Nd := fun L hd s =>
 if t.text = (⟨#[116, 114, 117, 101]⟩ : ByteArray) ∨ t.text = (⟨#[102, 97, 108, 115, 101]⟩ : ByteArray) then .ok (nd 38 t t.text []) s.next
 else if t.text = (⟨#[110, 105, 108]⟩ : ByteArray) then .ok (nd 39 t (⟨#[]⟩ : ByteArray) []) s.next
 else if t.text = (⟨#[102, 117, 110, 99]⟩ : ByteArray) then (r.function L hd s.next).then fun kids s => .ok (nd 48 t (⟨#[]⟩ : ByteArray) kids) s
 else if t.text = (⟨#[109, 97, 107, 101]⟩ : ByteArray) then
  (wantR L s.next (⟨#[40]⟩ : ByteArray)).then fun _ s => (r.typ L hd s).then fun ty s =>
  (if isR L s [(⟨#[44]⟩ : ByteArray)] then (r.expr L false s.next).then fun e s => .ok [ty, e] s else .ok [ty] s).then fun kids s =>
  (wantR L s (⟨#[41]⟩ : ByteArray)).then fun _ s => .ok (nd 44 t t.text kids) s
 else if t.text = (⟨#[110, 101, 119]⟩ : ByteArray) then
  (wantR L s.next (⟨#[40]⟩ : ByteArray)).then fun _ s => (nameR L s).then fun x s => (wantR L s (⟨#[41]⟩ : ByteArray)).then fun _ s => .ok (nd 44 t t.text [nd 12 x x.text []]) s
 else if inS callTexts t.text then
  (wantR L s.next (⟨#[40]⟩ : ByteArray)).then fun _ s => (exprsF n r (⟨#[41]⟩ : ByteArray) L false s).then fun kids s => .ok (nd 44 t t.text kids) s
 else failR L s

def operandF (n : Nat) (r : Rec) : PF Nd := fun L hd s =>
 let t := tokAt L s.k
 if t.kind = 2 then .ok (.mk 36 (⟨#[]⟩ : ByteArray) t.num t.pos (⟨#[]⟩ : ByteArray) 0 []) s.next
 else if t.kind = 3 then .ok (nd 37 t t.text []) s.next
 else if t.kind = 1 then .ok (nd 40 t t.text []) s.next
 else if t.kind = 5 then markedF n r t L hd s
 else if t.kind = 4 then wordedF n r t L hd s
 else failR L s

def indexF (r : Rec) (t : Tok) (n : Nd) : PF Nd := fun L hd s =>
 let slice (low : Nd) (s : St) : R Nd :=
  (wantR L s (⟨#[58]⟩ : ByteArray)).then fun _ s => (if isR L s [(⟨#[93]⟩ : ByteArray)] then .ok noneN s else r.expr L hd s).then fun high s =>
  (wantR L s (⟨#[93]⟩ : ByteArray)).then fun _ s => .ok (nd 46 t (⟨#[]⟩ : ByteArray) [n, low, high]) s
 if isR L s [(⟨#[58]⟩ : ByteArray)] then slice noneN s
 else (r.expr L hd s).then fun low s => if isR L s [(⟨#[93]⟩ : ByteArray)] then .ok (nd 45 t (⟨#[]⟩ : ByteArray) [n, low]) s.next else slice low s

def primaryGo (nn : Nat) (r : Rec) (L : List Tok) : Nat → Nd → Bool → St → R (Nd × Bool)
  | 0, _, _, _ => .out
  | n + 1, x, bare, s =>
    if isR L s [(⟨#[40]⟩ : ByteArray), (⟨#[91]⟩ : ByteArray), (⟨#[46]⟩ : ByteArray)] then
      let t := tokAt L s.k
      let s := s.next
      (if t.text = (⟨#[40]⟩ : ByteArray) then (exprsF nn r (⟨#[41]⟩ : ByteArray) L false s).then fun args s => .ok (nd 43 t (⟨#[]⟩ : ByteArray) (x :: args)) s
       else if t.text = (⟨#[91]⟩ : ByteArray) then indexF r t x L false s
       else (nameR L s).then fun y s => .ok (nd 47 t y.text [x]) s).then fun x s => primaryGo nn r L n x false s
    else .ok (x, bare) s

def primaryF (n : Nat) (r : Rec) : PF Nd := fun L hd s =>
 let bare := isR L s [(⟨#[40]⟩ : ByteArray)]
 (operandF n r L hd s).then fun x s => (primaryGo n r L n x bare s).then fun y s => .ok y.1 (s.with y.2)

def Rec.step (n : Nat) (r : Rec) : Rec where
 typ := typF n r
 function := functionF n r
 block := blockF r
 stmts := stmtsF n r
 stmt := stmtF r
 nested := nestedF n r
 branch := branchF r
 expr := r.binary 1
 binary := binaryF n r
 unary := unaryF r
 primary := primaryF n r
 simple := simpleF r

def recN : Nat → Rec
 | 0 => .none
 | n + 1 => (recN n).step n

def fieldsR (r : Rec) (L : List Tok) (hd : Bool) : Nat → List Nd → St → R (List Nd) := untilR L [(⟨#[125]⟩ : ByteArray)] fun kids s =>
 (nameR L s).then fun f s => (r.typ L hd s).then fun y s => (wantR L s (⟨#[59]⟩ : ByteArray)).then fun _ s => .ok (kids ++ [nd 5 f f.text [y]]) s

def declF (n : Nat) (r : Rec) : PF Nd := fun L hd s =>
 let t := tokAt L s.k
 if isR L s [(⟨#[116, 121, 112, 101]⟩ : ByteArray)] then
  (nameR L s.next).then fun x s => (wantR L s (⟨#[115, 116, 114, 117, 99, 116]⟩ : ByteArray)).then fun _ s => (wantR L s (⟨#[123]⟩ : ByteArray)).then fun _ s =>
  (fieldsR r L hd n [] s).then fun kids s => .ok (nd 2 t x.text kids) s.next
 else if isR L s [(⟨#[118, 97, 114]⟩ : ByteArray)] then (nameR L s.next).then fun x s => (r.typ L hd s).then fun y s => .ok (nd 3 t x.text [y]) s
 else if isR L s [(⟨#[102, 117, 110, 99]⟩ : ByteArray)] then (nameR L s.next).then fun x s => (r.function L hd s).then fun kids s => .ok (nd 4 t x.text kids) s
 else failR L s

def fileGo (n : Nat) (r : Rec) (L : List Tok) (hd : Bool) : Nat → List Nd → St → R (List Nd)
 | 0, _, _ => .out
 | m + 1, kids, s => if (tokAt L s.k).kind = 6 then .ok kids s
  else (declF n r L hd s).then fun d s => (wantR L s (⟨#[59]⟩ : ByteArray)).then fun _ s => fileGo n r L hd m (kids ++ [d]) s
def fileF (n : Nat) (r : Rec) : PF Nd := fun L hd s => (fileGo n r L hd n [] s).then fun kids s => .ok (.mk 1 (⟨#[]⟩ : ByteArray) 0 0 (⟨#[]⟩ : ByteArray) 0 kids) s

end Go.Proofs.ZL
end

section
open Go Go.Am
namespace Go.Proofs.ZL
set_option maxRecDepth 100000
set_option linter.unusedSimpArgs false
set_option linter.unusedVariables false

def Nd.head (t : Nd) : List Value := [.int .i64 t.kind, .string t.text, .int .i64 t.num, .int .i64 t.pos, .string t.typ, .int .i64 t.ref]

inductive NV (h : Heap) (S : Nat → Prop) : List Value → Nd → Prop
 | leaf (kind : Int) (text : ByteArray) (num pos : Int) (typ : ByteArray) (ref : Int) :
   NV h S [.int .i64 kind, .string text, .int .i64 num, .int .i64 pos, .string typ, .int .i64 ref, .slice none 0 0] (.mk kind text num pos typ ref [])
 | node (kind : Int) (text : ByteArray) (num pos : Int) (typ : ByteArray) (ref : Int) (kids : List Nd) (i : Nat) (cells : List Value) : S i → i < h.next → h.obj i = some (.cells false cells) → cells.length = kids.length * 7 →
   (∀ j t, kids[j]? = some t → NV h S ((cells.drop (j * 7)).take 7) t) →
   NV h S [.int .i64 kind, .string text, .int .i64 num, .int .i64 pos, .string typ, .int .i64 ref, .slice (some ⟨i, 0, none⟩) kids.length 7] (.mk kind text num pos typ ref kids)

theorem NV.mono {h h' : Heap} {S S' : Nat → Prop} {vs : List Value} {t : Nd} (hn : h.next ≤ h'.next) (ho : ∀ j, S j → j < h.next → S' j ∧ h'.obj j = h.obj j) (hv : NV h S vs t) : NV h' S' vs t := by
 induction hv with
 | leaf kind text num pos typ ref => exact .leaf kind text num pos typ ref
 | node kind text num pos typ ref kids i cells h1 h2 h3 h4 _ ih =>
  exact .node kind text num pos typ ref kids i cells (ho i h1 h2).1 (Nat.lt_of_lt_of_le h2 hn) (by rw [(ho i h1 h2).2]; exact h3) h4 ih

def KV (h : Heap) (S : Nat → Prop) (b : Option Addr) (n es : Nat) (kids : List Nd) : Prop :=
 (b = none ∧ n = 0 ∧ es = 0 ∧ kids = []) ∨ ∃ i cells, b = some ⟨i, 0, none⟩ ∧ S i ∧ i < h.next ∧ es = 7 ∧ n = kids.length ∧ h.obj i = some (.cells false cells) ∧ cells.length = kids.length * 7 ∧
  ∀ j t, kids[j]? = some t → NV h (fun x => S x ∧ x ≠ i) ((cells.drop (j * 7)).take 7) t

theorem KV.mono {h h' : Heap} {S S' : Nat → Prop} {b : Option Addr} {n es : Nat} {kids : List Nd} (hn : h.next ≤ h'.next) (ho : ∀ j, S j → j < h.next → S' j ∧ h'.obj j = h.obj j) (hk : KV h S b n es kids) : KV h' S' b n es kids := by
 rcases hk with ⟨rfl, rfl, rfl, rfl⟩ | ⟨i, cells, rfl, h1, h2, rfl, rfl, h3, h4, h5⟩
 ·exact .inl ⟨rfl, rfl, rfl, rfl⟩
 ·exact .inr ⟨i, cells, rfl, (ho i h1 h2).1, Nat.lt_of_lt_of_le h2 hn, rfl, rfl, by rw [(ho i h1 h2).2]; exact h3, h4, fun j t ht => (h5 j t ht).mono hn fun x hx hlt => ⟨⟨(ho x hx.1 hlt).1, hx.2⟩, (ho x hx.1 hlt).2⟩⟩

theorem KV.nil (h : Heap) (S : Nat → Prop) : KV h S none 0 0 [] := .inl ⟨rfl, rfl, rfl, rfl⟩
theorem KV.len {h : Heap} {S : Nat → Prop} {b : Option Addr} {n es : Nat} {kids : List Nd} (hk : KV h S b n es kids) : n = kids.length := by
 rcases hk with ⟨_, rfl, _, rfl⟩ | ⟨i, cells, _, _, _, _, rfl, _⟩ <;> rfl

theorem NV.of_kids {h : Heap} {S : Nat → Prop} {b : Option Addr} {n es : Nat} {kids : List Nd} (hk : KV h S b n es kids) (kind : Int) (text : ByteArray) (num pos : Int) (typ : ByteArray) (ref : Int) :
  NV h S [.int .i64 kind, .string text, .int .i64 num, .int .i64 pos, .string typ, .int .i64 ref, .slice b n es] (.mk kind text num pos typ ref kids) := by
 rcases hk with ⟨rfl, rfl, rfl, rfl⟩ | ⟨i, cells, rfl, h1, h2, rfl, rfl, h3, h4, h5⟩
 ·exact .leaf kind text num pos typ ref
 ·exact .node kind text num pos typ ref kids i cells h1 h2 h3 h4 fun j t ht => (h5 j t ht).mono (Nat.le_refl _) fun x hx _ => ⟨hx.1, rfl⟩

theorem NV.len {h : Heap} {S : Nat → Prop} {vs : List Value} {t : Nd} (hv : NV h S vs t) : vs.length = 7 := by cases hv <;> rfl

theorem KV.fresh {h : Heap} {S S' : Nat → Prop} {i : Nat} {kids : List Nd} {vss : List (List Value)} (hi : S' i) (hlt : i < h.next) (ho : h.obj i = some (.cells false vss.flatten)) (hl : vss.length = kids.length)
  (hS : ∀ j, S j → j < h.next → S' j ∧ j ≠ i) (hk : ∀ (j : Nat) (t : Nd) (vs : List Value), kids[j]? = some t → vss[j]? = some vs → NV h S vs t) : KV h S' (some ⟨i, 0, none⟩) kids.length 7 kids := by
 have h7 : ∀ vs ∈ vss, vs.length = 7 := fun vs hvs => by
  obtain ⟨j, hj⟩ := List.getElem?_of_mem hvs
  have hj' : j < vss.length := (List.getElem?_eq_some_iff.1 hj).1
  exact (hk j _ vs (List.getElem?_eq_getElem (by omega)) hj).len
 have hfl : ∀ (l : List (List Value)), (∀ vs ∈ l, vs.length = 7) → l.flatten.length = l.length * 7 ∧ ∀ j vs, l[j]? = some vs → (l.flatten.drop (j * 7)).take 7 = vs := by
  intro l
  induction l with
  | nil => intro _; exact ⟨rfl, fun j vs h => by simp at h⟩
  | cons a l ih =>
   intro hl
   have ha := hl a (List.mem_cons_self ..)
   obtain ⟨i1, i2⟩ := ih fun vs hvs => hl vs (List.mem_cons_of_mem _ hvs)
   refine ⟨by rw [List.flatten_cons, List.length_append, i1, ha, List.length_cons]; omega, fun j vs hj => ?_⟩
   cases j with
   | zero =>
    simp at hj; subst hj
    rw [List.flatten_cons, Nat.zero_mul, List.drop_zero, List.take_left' ha]
   | succ j =>
    simp at hj
    rw [List.flatten_cons, show (j + 1) * 7 = a.length + j * 7 by omega, List.drop_append, ← i2 j vs hj]
    rw [List.drop_eq_nil_of_le (by omega), List.nil_append, Nat.add_sub_cancel_left]
 obtain ⟨f1, f2⟩ := hfl vss h7
 refine .inr ⟨i, vss.flatten, rfl, hi, hlt, rfl, rfl, ho, by rw [f1, hl], fun j t ht => ?_⟩
 have hj : j < kids.length := (List.getElem?_eq_some_iff.1 ht).1
 have hv := List.getElem?_eq_getElem (l := vss) (i := j) (by omega)
 rw [f2 j _ hv]
 exact (hk j t _ ht hv).mono (Nat.le_refl _) fun x hx hl => ⟨hS x hx hl, rfl⟩

def ncells (t : Nd) (b : Option Addr) (n es : Nat) : List Value := [.int .i64 t.kind, .string t.text, .int .i64 t.num, .int .i64 t.pos, .string t.typ, .int .i64 t.ref, .slice b n es]
theorem KV.one {h : Heap} {S S' : Nat → Prop} {i : Nat} {t : Nd} {b : Option Addr} {n es : Nat} (hi : S' i) (hlt : i < h.next) (ho : h.obj i = some (.cells false (ncells t b n es))) (hv : NV h S (ncells t b n es) t)
  (hS : ∀ j, S j → j < h.next → S' j ∧ j ≠ i) : KV h S' (some ⟨i, 0, none⟩) 1 7 [t] :=
 KV.fresh (S := S) (kids := [t]) (vss := [ncells t b n es]) hi hlt (by simpa using ho) rfl hS fun j u vs h1 h2 => by
  cases j with
  | zero => simp at h1 h2; subst h1; subst h2; exact hv
  | succ j => simp at h1

theorem KV.two {h : Heap} {S S' : Nat → Prop} {i : Nat} {t t2 : Nd} {b b2 : Option Addr} {n es n2 es2 : Nat} (hi : S' i) (hlt : i < h.next) (ho : h.obj i = some (.cells false (ncells t b n es ++ ncells t2 b2 n2 es2))) (hv : NV h S (ncells t b n es) t) (hv2 : NV h S (ncells t2 b2 n2 es2) t2)
  (hS : ∀ j, S j → j < h.next → S' j ∧ j ≠ i) : KV h S' (some ⟨i, 0, none⟩) 2 7 [t, t2] :=
 KV.fresh (S := S) (kids := [t, t2]) (vss := [ncells t b n es, ncells t2 b2 n2 es2]) hi hlt (by simpa using ho) rfl hS fun j u vs h1 h2 => by
  rcases j with _ | _ | j
  ·simp at h1 h2; subst h1; subst h2; exact hv
  ·simp at h1 h2; subst h1; subst h2; exact hv2
  ·simp at h1
theorem KV.three {h : Heap} {S S' : Nat → Prop} {i : Nat} {t t2 t3 : Nd} {b b2 b3 : Option Addr} {n es n2 es2 n3 es3 : Nat} (hi : S' i) (hlt : i < h.next) (ho : h.obj i = some (.cells false (ncells t b n es ++ ncells t2 b2 n2 es2 ++ ncells t3 b3 n3 es3))) (hv : NV h S (ncells t b n es) t) (hv2 : NV h S (ncells t2 b2 n2 es2) t2) (hv3 : NV h S (ncells t3 b3 n3 es3) t3)
  (hS : ∀ j, S j → j < h.next → S' j ∧ j ≠ i) : KV h S' (some ⟨i, 0, none⟩) 3 7 [t, t2, t3] :=
 KV.fresh (S := S) (kids := [t, t2, t3]) (vss := [ncells t b n es, ncells t2 b2 n2 es2, ncells t3 b3 n3 es3]) hi hlt (by simpa using ho) rfl hS fun j u vs h1 h2 => by
  rcases j with _ | _ | _ | j
  ·simp at h1 h2; subst h1; subst h2; exact hv
  ·simp at h1 h2; subst h1; subst h2; exact hv2
  ·simp at h1 h2; subst h1; subst h2; exact hv3
  ·simp at h1

structure WF (L : List Tok) : Prop where
 size : L.length ≤ 10000
 last : ∀ k, k + 1 = L.length → (tokAt L k).kind = 6

theorem WF.more {L : List Tok} (w : WF L) {k : Nat} (hk : k < L.length) (h6 : (tokAt L k).kind ≠ 6) : k + 1 < L.length := by
 rcases Nat.lt_or_ge (k + 1) L.length with h | h
 ·exact h
 ·exact (h6 (w.last k (by omega))).elim
theorem isTok_kind {t : Tok} {ts : List ByteArray} (h : isTok t ts = true) : t.kind ≠ 6 := by
 unfold isTok at h
 simp only [Bool.and_eq_true, Bool.or_eq_true, decide_eq_true_eq] at h
 omega
theorem WF.is {L : List Tok} (w : WF L) {s : St} {ts : List ByteArray} (hk : s.k < L.length) (h : isR L s ts = true) : s.k + 1 < L.length := w.more hk (isTok_kind h)

structure PSt (h : Heap) (p : Nat) (L : List Tok) (hd : Bool) (s : St) : Prop where
 lt : p < h.next
 tok : ∃ j, j < p ∧ h.obj p = some (.cells false [.slice (some ⟨j, 0, none⟩) L.length 4, .int .i64 s.k, .bool hd, .bool s.bare]) ∧ h.obj j = some (.cells false (cellsOf L))
 at_ : s.k < L.length
 wf : WF L

theorem PSt.gr {h h' : Heap} {p : Nat} {L : List Tok} {hd : Bool} {s : St} (ps : PSt h p L hd s) (g : Gr h h') : PSt h' p L hd s := by
 obtain ⟨j, hj, h1, h2⟩ := ps.tok
 exact ⟨Nat.lt_of_lt_of_le ps.lt g.1, ⟨j, hj, g.at ps.lt h1, g.at (Nat.lt_trans hj ps.lt) h2⟩, ps.at_, ps.wf⟩

def wrongV (p : Int) (w : ByteArray) : List PanicEntry := [{ v := .iface 51 (.agg #[.int .i64 p, .iface 123 (.string w)]), recovered := false }]

def EndN {α : Type} (V : Heap → α → Value → Prop) (p : Nat) (L : List Tok) (hd : Bool) (h : Heap) (Q : ARes → Prop) : R α → Prop
 | .ok a s' => ∀ h' v, PSt h' p L hd s' → Fr1 p h h' → V h' a v → Q (.ret v h')
 | .bad e => ∀ h' w, Fr1 p h h' → Q (.panic (wrongV (tokAt L e).pos w) h')
 | .out => False

theorem NV.cells {h : Heap} {S : Nat → Prop} {vs : List Value} {t : Nd} (hv : NV h S vs t) : ∃ b n es, vs = ncells t b n es := by
 cases hv with
 | leaf kind text num pos typ ref => exact ⟨_, _, _, rfl⟩
 | node kind text num pos typ ref kids i cells _ _ _ _ _ => exact ⟨_, _, _, rfl⟩

def VN (S : Nat → Prop) (h : Heap) (t : Nd) (v : Value) : Prop := ∃ b n es, v = .agg (ncells t b n es).toArray ∧ NV h S (ncells t b n es) t
def VK (S : Nat → Prop) (h : Heap) (t : List Nd) (v : Value) : Prop := ∃ b n es, v = .slice b n es ∧ KV h S b n es t
def VT (_ : Heap) (t : Tok) (v : Value) : Prop := v = .agg t.cells.toArray
def VU {α : Type} (_ : Heap) (_ : α) (v : Value) : Prop := v = .tuple #[]

theorem EndN.use {α β : Type} {V : Heap → α → Value → Prop} {W : Heap → β → Value → Prop} {p : Nat} {L : List Tok} {hd hd' : Bool} {h h1 : Heap} {Q Q' : ARes → Prop} {r : R α} {g : α → St → R β} (fr : Fr1 p h h1) (hq : EndN W p L hd h Q (r.then g))
  (hbad : ∀ ch h', Q (.panic ch h') → Q' (.panic ch h')) (hok : ∀ a s' h2 v, PSt h2 p L hd' s' → Fr1 p h1 h2 → V h2 a v → EndN W p L hd h Q (g a s') → Q' (.ret v h2)) : EndN V p L hd' h1 Q' r := by
 cases r with
 | ok a s => exact fun h2 v ps fr2 hv => hok a s h2 v ps fr2 hv hq
 | bad pos => exact fun h2 w fr2 => hbad _ _ (hq h2 w (fr.trans fr2))
 | out => exact hq

theorem PSt.alloc {h : Heap} {p : Nat} {L : List Tok} {hd : Bool} {s : St} (ps : PSt h p L hd s) (o : AObj) : PSt (h.alloc o) p L hd s := ps.gr (Gr.alloc _ _)
theorem PSt.put {h : Heap} {p : Nat} {L : List Tok} {hd : Bool} {s : St} (ps : PSt h p L hd s) {i : Nat} {o : Option AObj} (hi : p < i) : PSt (h.put i o) p L hd s := by
 obtain ⟨j, hj, h1, h2⟩ := ps.tok
 exact ⟨ps.lt, ⟨j, hj, obj_else (by omega) h1, obj_else (by omega) h2⟩, ps.at_, ps.wf⟩

theorem KV.sliceAt {h : Heap} {S : Nat → Prop} {b : Option Addr} {n es : Nat} {kids : List Nd} (hk : KV h S b n es kids) : ∃ old, SliceAt h b n es 7 old ∧ old.length = kids.length * 7 ∧
  ∀ (j : Nat) (t : Nd), kids[j]? = some t → NV h (fun x => S x ∧ ∀ off, b ≠ some ⟨x, off, none⟩) ((old.drop (j * 7)).take 7) t := by
 rcases hk with ⟨rfl, rfl, rfl, rfl⟩ | ⟨i, cells, rfl, h1, h2, rfl, rfl, h3, h4, h5⟩
 ·exact ⟨[], .inl ⟨rfl, rfl, rfl, rfl⟩, rfl, fun j t h => by simp at h⟩
 ·refine ⟨cells, .inr ⟨i, 0, cells, rfl, rfl, h3, by omega, by rw [List.drop_zero, List.take_of_length_le (by omega)]⟩, h4, fun j t ht => (h5 j t ht).mono (Nat.le_refl _) fun x hx _ => ⟨⟨hx.1, fun off e => ?_⟩, rfl⟩⟩
  cases e; exact hx.2 rfl

theorem KV.snoc {h h1 : Heap} {S S2 S' : Nat → Prop} {b : Option Addr} {kids : List Nd} {t : Nd} {old vs : List Value} {n : Nat} (hl : old.length = kids.length * 7) (hn : n = kids.length + 1)
  (hold : ∀ (j : Nat) (t : Nd), kids[j]? = some t → NV h (fun x => S x ∧ ∀ off, b ≠ some ⟨x, off, none⟩) ((old.drop (j * 7)).take 7) t) (hv : NV h S2 vs t)
  (hn1 : h1.next = h.next + 1) (ho1 : h1.obj h.next = some (.cells false (old ++ vs))) (hf : ∀ i, i < h.next → (∀ off, b ≠ some ⟨i, off, none⟩) → h1.obj i = h.obj i)
  (hS : S' h.next) (hS1 : ∀ x, S x → x < h.next → S' x) (hS2 : ∀ x, S2 x → x < h.next → S' x ∧ ∀ off, b ≠ some ⟨x, off, none⟩) : KV h1 S' (some ⟨h.next, 0, none⟩) n 7 (kids ++ [t]) := by
 have h7 := hv.len
 refine .inr ⟨h.next, old ++ vs, rfl, hS, by omega, rfl, by simp [hn], ho1, by simp [hl, h7]; omega, fun j u hj => ?_⟩
 rcases Nat.lt_or_ge j kids.length with h' | h'
 ·rw [List.getElem?_append_left h'] at hj
  have e : ((old ++ vs).drop (j * 7)).take 7 = (old.drop (j * 7)).take 7 := by
   rw [List.drop_append_of_le_length (by omega), List.take_append_of_le_length (by rw [List.length_drop]; omega)]
  rw [e]
  exact (hold j u hj).mono (by omega) fun x hx hlt => ⟨⟨hS1 x hx.1 hlt, by omega⟩, hf x hlt hx.2⟩
 ·have hj' : j < (kids ++ [t]).length := (List.getElem?_eq_some_iff.1 hj).1
  simp only [List.length_append, List.length_singleton] at hj'
  have ej : j = kids.length := by omega
  subst ej
  rw [List.getElem?_append_right (Nat.le_refl _), Nat.sub_self] at hj
  cases hj
  rw [← hl, List.drop_left' rfl, List.take_of_length_le (by omega)]
  exact hv.mono (by omega) fun x hx hlt => ⟨⟨(hS2 x hx hlt).1, by omega⟩, hf x hlt (hS2 x hx hlt).2⟩

end Go.Proofs.ZL
end

section
open Go Go.Am
namespace Go.Proofs.ZL
set_option maxRecDepth 100000
set_option linter.unusedSimpArgs false
set_option linter.unusedVariables false
set_option maxHeartbeats 4000000

abbrev pV (p : Nat) : Value := .pointer (some ⟨p, 0, none⟩)
theorem tokAt_get {L : List Tok} {k : Nat} (hk : k < L.length) : L[k]? = some (tokAt L k) := by
 unfold tokAt; rw [List.getD_eq_getElem?_getD, List.getElem?_eq_getElem hk]; rfl

theorem peek_w {p : Nat} {L : List Tok} {hd : Bool} {s : St} {h : Heap} {Q : ARes → Prop} (ps : PSt h p L hd s) (hq : ∀ h', Gr h h' → Q (.ret (.agg (tokAt L s.k).cells.toArray) h')) :
  WCall Tryz.prog G X 51 [pV p] h Q := by
 obtain ⟨j, hj, ho, hl⟩ := ps.tok
 have hp := ps.lt
 have hk := ps.at_
 have hz := ps.wf.size
 have hget := tokAt_get hk
 generalize tokAt L s.k = t at *
 refine WCall.walk hX Tryz.func51 rfl rfl Tryz.ntmps51 rfl ?_
 refine QN hX ?_;refine QK (Qw ?_);refine QL ?_;refine QU hX ?_;refine WC.drawn (id := 1) hX (l := [⟨0, .pure, 0⟩, ⟨1, .pure, 1⟩, ⟨2, .pure, 3⟩, ⟨3, .read, 7⟩, ⟨4, .pure, 0⟩, ⟨5, .pure, 16⟩, ⟨6, .pure, 48⟩, ⟨7, .read, 112⟩, ⟨8, .pure, 255⟩, ⟨9, .read, 511⟩, ⟨10, .heavy, 1023⟩]) (hw := ?_);refine QW (k := Qa ?_);refine QW (k := Qi ?_);refine QW (k := Qj ?_);refine QX (k := Qt ?_);refine QW (k := Qa ?_);refine QW (k := Qi ?_);refine QW (k := Qj ?_);refine QX (k := Qt ?_);refine QW (k := Ql ?_);refine WD.read (hw := ?_)
 refine WS.loadG (vs := t.cells) (hc := ?_) (hv' := ?_) (hk := ?_)
 (· rw [cellsOf_length]; omega); (· rw [show 0 + (s.k : Int).toNat * 4 = s.k * 4 by omega, cells_at hget]; rfl)
 refine WD.heavy hX (hw := Qv ?_);refine WD.nil (hq := ?_);refine WC.ret ?_
 refine ⟨_, Wwres, ?_⟩
 exact hq _ (Gr.put (Gr.alloc _ _) (Nat.le_refl _))

theorem is_w {p : Nat} {L : List Tok} {hd : Bool} {s : St} {j n : Nat} {ts : List ByteArray} {h : Heap} {Q : ARes → Prop} (ps : PSt h p L hd s) (ho : h.obj j = some (.cells false (ts.map Value.string))) (hj : j < h.next) (hn : n = ts.length) (hl : ts.length ≤ 1000)
  (hq : ∀ h', Gr h h' → Q (.ret (.bool (isR L s ts)) h')) : WCall Tryz.prog G X 71 [pV p, .slice (some ⟨j, 0, none⟩) n 1] h Q := by
 refine WCall.walk hX Tryz.func71 rfl rfl Tryz.ntmps71 rfl ?_
 refine QN hX ?_;refine QK (Qb ?_);refine QO hX ?_;refine QK (Qa ?_);refine QK ?_
 refine QJ en51 ?_
 refine peek_w ps fun h1 g1 => ?_
 have hr : isR L s ts = isTok (tokAt L s.k) ts := rfl
 generalize tokAt L s.k = t at *
 have hn1 := g1.1
 have ho1 := g1.at hj ho
 have hj1 : j < h1.next := Nat.lt_of_lt_of_le hj hn1
 refine QK (Qw ?_);refine QK (Qv ?_);refine QO hX ?_;refine QK (Qj ?_);refine QK (Qt ?_);refine QK (QD ?_ ?_);intro hh;refine QK (Qa ?_);refine QK (QA ?_);refine QK (QA ?_);refine QK (QA ?_);refine QK (Qc ?_);refine QK (Qa ?_);refine QK (Qa ?_);refine QK (Qj ?_);refine QK (Qt ?_);refine QK ?_;rotate_left;intro hh;refine QK (Qa ?_);refine QK (Qj ?_);refine QK (Qt ?_);refine QK (QD ?_ ?_);intro hh;refine QK (Qd ?_);refine QK (Qa ?_);refine QK (Qa ?_);refine QK (Qj ?_);refine QK (Qt ?_);refine QK ?_;rotate_left;intro hh;refine QK (Qd ?_);refine QK (Qa ?_);refine QK (QA ?_);refine QK (QA ?_);refine QK (QA ?_);refine QK (QA ?_);refine QK (Qd ?_);refine QK (Qb ?_);refine QM ?_;rotate_left
 ·refine QJ en85 ?_
  refine contains_w Wwobj hn (by omega) ?_
  have e : isR L s ts = inS ts t.text := by rw [hr]; unfold isTok; rw [hh]; simp
  rw [e] at hq
  refine QK (Qc ?_);refine QK (Qb ?_);refine QM ?_
  refine ⟨_, Wwres, ?_⟩
  exact hq _ Wwgr
 ·refine QJ en85 ?_
  refine contains_w Wwobj hn (by omega) ?_
  have e : isR L s ts = inS ts t.text := by rw [hr]; unfold isTok; rw [hh]; simp
  rw [e] at hq
  refine QK (Qc ?_);refine QK (Qb ?_);refine QM ?_
  refine ⟨_, Wwres, ?_⟩
  exact hq _ Wwgr
 ·have e : isR L s ts = false := by rw [hr]; unfold isTok; simp [*]
  rw [e] at hq
  refine ⟨_, Wwres, ?_⟩
  exact hq _ Wwgr

theorem PSt.set {h h' : Heap} {p : Nat} {L : List Tok} {hd : Bool} {s : St} (ps : PSt h p L hd s) (hd' : Bool) (s' : St) (hn : h.next ≤ h'.next) (ho : ∀ j, j < p → h'.obj j = h.obj j) (hk : s'.k < L.length)
  (hp : ∀ j, h.obj p = some (.cells false [.slice (some ⟨j, 0, none⟩) L.length 4, .int .i64 s.k, .bool hd, .bool s.bare]) → h'.obj p = some (.cells false [.slice (some ⟨j, 0, none⟩) L.length 4, .int .i64 s'.k, .bool hd', .bool s'.bare])) : PSt h' p L hd' s' := by
 obtain ⟨j, hj, h1, h2⟩ := ps.tok
 exact ⟨Nat.lt_of_lt_of_le ps.lt hn, ⟨j, hj, hp j h1, by rw [ho j hj]; exact h2⟩, hk, ps.wf⟩

theorem take_w {p : Nat} {L : List Tok} {hd : Bool} {s : St} {h : Heap} {Q : ARes → Prop} (ps : PSt h p L hd s) (hm : s.k + 1 < L.length) (hq : ∀ h', PSt h' p L hd s.next → Fr1 p h h' → Q (.ret (.agg (tokAt L s.k).cells.toArray) h')) :
  WCall Tryz.prog G X 72 [pV p] h Q := by
 have hz := ps.wf.size
 refine WCall.walk hX Tryz.func72 rfl rfl Tryz.ntmps72 rfl ?_
 refine QN hX ?_;refine QK (Qw ?_);refine QO hX ?_;refine QK (Qa ?_);refine QK ?_
 refine QJ en51 ?_
 refine peek_w (ps.gr (Gr.alloc _ _)) fun h1 g1 => ?_
 have g0 : Gr h h1 := (Gr.alloc _ _).trans g1
 have ps1 := ps.gr g0
 obtain ⟨j, hj, ho, hl⟩ := ps1.tok
 have hp := ps.lt
 have hn1 := g1.1
 simp only [Heap.alloc_next] at hn1
 have hres : h1.obj h.next = some (.cells false [.int .i64 0, .string .empty, .int .i64 0, .int .i64 0]) := g1.at (by simp) obj_new
 generalize tokAt L s.k = t at *
 refine QK (Qw ?_);refine QK (Qv ?_);refine QO hX ?_;refine QK (Qa ?_);refine QK (Qi ?_);refine QK (Qj ?_);refine QK (Qt ?_);refine QK (Qf ?_);refine QK (Qi ?_);refine QK (Qj ?_);refine QK (Qv ?_);refine QO hX ?_;refine QK (Qu ?_);refine QK (Qv ?_);refine QM ?_
 refine ⟨_, Wwres, ?_⟩
 refine hq _ ?_ ⟨by simp; omega, fun i hi hip => ?_⟩
 ·refine ps1.set hd s.next (by simp) (fun i hi => ?_) hm fun j' hj' => ?_
  ·refine obj_else (by omega) (obj_else (by omega) (obj_else (by simp; omega) (obj_old (by simp; omega) rfl)))
  ·rw [ho] at hj'
   cases hj'
   refine obj_else (by omega) ?_
   exact obj_put
 ·refine obj_else (by omega) (obj_else (by omega) (obj_else (by simp; omega) (obj_old (by simp; omega) ?_)))
  exact g0.2 i hi

theorem fail_w {p : Nat} {L : List Tok} {hd : Bool} {s : St} {w : ByteArray} {h : Heap} {Q : ARes → Prop} (ps : PSt h p L hd s) (hq : ∀ h', Gr h h' → Q (.panic (wrongV (tokAt L s.k).pos w) h')) :
  WCall Tryz.prog G X 77 [pV p, .string w] h Q := by
 refine WCall.walk hX Tryz.func77 rfl rfl Tryz.ntmps77 rfl ?_
 refine QV hX ?_;refine QK (Qa ?_);refine QK ?_
 refine QJ en51 ?_
 refine peek_w ps fun h1 g1 => ?_
 unfold wrongV at hq
 generalize tokAt L s.k = t at *
 refine QK (Qk ?_);refine QK (Qa ?_);refine QK (Qo ?_);refine QK (Qn ?_);refine QK (Qo ?_);refine QK ?_
 apply WS.panic (v := .iface 51 (.agg #[.int .i64 t.pos, .iface 123 (.string w)])); (· rfl); (· rfl)
 exact hq _ g1

theorem failN_w {α : Type} {V : Heap → α → Value → Prop} {p : Nat} {L : List Tok} {hd : Bool} {s : St} {w : ByteArray} {h h0 : Heap} {Q : ARes → Prop} {Q' : ARes → Prop} (ps : PSt h p L hd s) (fr : Fr1 p h0 h) (hq : EndN V p L hd h0 Q (failR L s : R α)) (hQ : ∀ ch h', Q (.panic ch h') → Q' (.panic ch h')) :
  WCall Tryz.prog G X 77 [pV p, .string w] h Q' :=
 fail_w ps fun h' g => hQ _ _ (hq h' w (fr.trans (.of g)))

theorem want_w {p : Nat} {L : List Tok} {hd : Bool} {s : St} {t : ByteArray} {h : Heap} {Q : ARes → Prop} (ps : PSt h p L hd s) (hq : EndN VT p L hd h Q (wantR L s t)) :
  WCall Tryz.prog G X 53 [pV p, .string t] h Q := by
 unfold wantR at hq
 refine WCall.walk hX Tryz.func53 rfl rfl Tryz.ntmps53 rfl ?_
 refine QN hX ?_;refine QK (Qw ?_);refine QL ?_;refine QU hX ?_;refine QN hX ?_;refine QK (Qa ?_);refine QK (Qa ?_);refine QK (Qy ?_);refine QK ?_
 refine QJ en71 ?_
 refine is_w (ts := [t]) (ps.gr ((Gr.alloc _ _).trans (Gr.alloc _ _))) obj_new (by simp) rfl (by simp) fun h1 g1 => ?_
 have g0 : Gr h h1 := ((Gr.alloc _ _).trans (Gr.alloc _ _)).trans g1
 have ps1 := ps.gr g0
 have hn1 := g1.1
 simp only [Heap.alloc_next] at hn1
 have hres : h1.obj h.next = some (.cells false [.int .i64 0, .string .empty, .int .i64 0, .int .i64 0]) := g1.at (by simp; omega) (obj_old (by simp) obj_new)
 cases hb : isR L s [t]
 ·rw [hb] at hq
  simp only [Bool.false_eq_true, if_false] at hq
  refine QK (Qe ?_);refine QQ hX ?_;refine QV hX ?_;refine QK (Qa ?_);refine QK (Qa ?_);refine QK ?_
  refine QJ en77 ?_
  exact failN_w ps1 (.of g0) hq fun _ _ x => x
 ·rw [hb] at hq
  simp only [if_true] at hq
  refine QK (Qe ?_);refine QP hX ?_;refine UA ?_;refine QN hX ?_;refine QK (Qa ?_);refine QK ?_
  refine QJ en72 ?_
  refine take_w ps1 (ps.wf.is ps.at_ hb) fun h2 ps2 fr2 => ?_
  have hp := ps.lt
  have hn2 := fr2.1
  have hres2 : h2.obj h.next = some (.cells false [.int .i64 0, .string .empty, .int .i64 0, .int .i64 0]) := by rw [fr2.2 _ (by omega) (by omega)]; exact hres
  refine QK (Qv ?_);refine QM ?_
  refine ⟨_, Wwres, ?_⟩
  refine hq _ _ (ps2.set hd s.next (by simp) (fun i hi => obj_else (by omega) rfl) ps2.at_ fun j hj => obj_else (by omega) hj) ⟨by simp; omega, fun i hi hip => ?_⟩ rfl
  rw [obj_else (by omega) rfl, fr2.2 i (by omega) hip]
  exact g0.2 i hi

theorem name_w {p : Nat} {L : List Tok} {hd : Bool} {s : St} {h : Heap} {Q : ARes → Prop} (ps : PSt h p L hd s) (hq : EndN VT p L hd h Q (nameR L s)) :
  WCall Tryz.prog G X 73 [pV p] h Q := by
 unfold nameR at hq
 refine WCall.walk hX Tryz.func73 rfl rfl Tryz.ntmps73 rfl ?_
 refine QN hX ?_;refine QK (Qw ?_);refine QL ?_;refine QU hX ?_;refine QN hX ?_;refine QK (Qa ?_);refine QK ?_
 refine QJ en51 ?_
 refine peek_w (ps.gr (Gr.alloc _ _)) fun h1 g1 => ?_
 have g0 : Gr h h1 := (Gr.alloc _ _).trans g1
 have ps1 := ps.gr g0
 have hn1 := g1.1
 simp only [Heap.alloc_next] at hn1
 have hres : h1.obj h.next = some (.cells false [.int .i64 0, .string .empty, .int .i64 0, .int .i64 0]) := g1.at (by simp) obj_new
 by_cases hb : (tokAt L s.k).kind = 1
 ·rw [if_pos hb] at hq
  refine QK (Qk ?_);refine QK (QE ?_ ?_);intro hh;exfalso;omega;intro hh;refine QP hX ?_;refine UA ?_;refine QN hX ?_;refine QK (Qa ?_);refine QK ?_
  refine QJ en72 ?_
  refine take_w ps1 (ps.wf.more ps.at_ (by omega)) fun h2 ps2 fr2 => ?_
  have hp := ps.lt
  have hn2 := fr2.1
  have hres2 : h2.obj h.next = some (.cells false [.int .i64 0, .string .empty, .int .i64 0, .int .i64 0]) := by rw [fr2.2 _ (by omega) (by omega)]; exact hres
  refine QK (Qv ?_);refine QM ?_
  refine ⟨_, Wwres, ?_⟩
  refine hq _ _ (ps2.set hd s.next (by simp) (fun i hi => obj_else (by omega) rfl) ps2.at_ fun j hj => obj_else (by omega) hj) ⟨by simp; omega, fun i hi hip => ?_⟩ rfl
  rw [obj_else (by omega) rfl, fr2.2 i (by omega) hip]
  exact g0.2 i hi
 ·rw [if_neg hb] at hq
  refine QK (Qk ?_);refine QK (QE ?_ ?_);intro hh;refine QQ hX ?_;refine QV hX ?_;refine QK (Qa ?_);refine QK ?_;rotate_left;intro hh;exfalso;omega
  refine QJ en77 ?_
  exact failN_w ps1 (.of g0) hq fun _ _ x => x

theorem got_w {p : Nat} {L : List Tok} {hd : Bool} {s : St} {t : ByteArray} {h : Heap} {Q : ARes → Prop} (ps : PSt h p L hd s)
  (hq : ∀ h', PSt h' p L hd (gotS L s t) → Fr1 p h h' → Q (.ret (.bool (isR L s [t])) h')) :
  WCall Tryz.prog G X 104 [pV p, .string t] h Q := by
 unfold gotS at hq
 have hz := ps.wf.size
 have hk := ps.at_
 refine WCall.walk hX Tryz.func104 rfl rfl Tryz.ntmps104 rfl ?_
 refine QN hX ?_;refine QK (Qb ?_);refine QO hX ?_;refine QK (Qa ?_);refine QK (Qa ?_);refine QK (Qy ?_);refine QK ?_
 refine QJ en71 ?_
 refine is_w (ts := [t]) (ps.gr (Gr.alloc _ _)) obj_new (by simp) rfl (by simp) fun h1 g1 => ?_
 have g0 : Gr h h1 := (Gr.alloc _ _).trans g1
 have ps1 := ps.gr g0
 cases hb : isR L s [t]
 ·rw [hb] at hq
  simp only [Bool.false_eq_true, if_false] at hq
  refine QK (Qb ?_);refine QL ?_;refine QU hX ?_;refine QN hX ?_;refine QK (Qa ?_);refine QP hX ?_;refine UA ?_;refine QN hX ?_;refine QK (Qa ?_);refine QK (Qb ?_);refine QM ?_
  refine ⟨_, Wwres, ?_⟩
  exact hq _ ps1 (.of g0)
 ·rw [hb] at hq
  simp only [if_true] at hq
  obtain ⟨j, hj, ho, hl⟩ := ps1.tok
  refine QK (Qb ?_);refine QL ?_;refine QU hX ?_;refine QN hX ?_;refine QK (Qa ?_);refine QQ hX ?_;refine QV hX ?_;refine QK (Qa ?_);refine QK (Qi ?_);refine QK (Qj ?_);refine QK (Qt ?_);refine QK (Qf ?_);refine QK (Qi ?_);refine QK (Qj ?_);refine QK (Qv ?_);refine QO hX ?_;refine QK (Qa ?_);refine QK (Qb ?_);refine QM ?_
  refine ⟨_, Wwres, ?_⟩
  refine hq _ (ps1.set hd s.next (by simp) (fun i hi => obj_else (by omega) rfl) (ps.wf.is ps.at_ hb) fun j' hj' => ?_) ⟨by simpa using g0.1, fun i hi hip => ?_⟩
  ·rw [ho] at hj'
   cases hj'
   exact obj_put
  ·rw [obj_else (by omega) rfl]
   exact g0.2 i hi

theorem begins_w {p : Nat} {L : List Tok} {hd : Bool} {s : St} {h : Heap} {Q : ARes → Prop} (ps : PSt h p L hd s) (hq : ∀ h', Gr h h' → Q (.ret (.bool (isR L s typeTexts)) h')) :
  WCall Tryz.prog G X 86 [pV p] h Q := by
 refine WCall.walk hX Tryz.func86 rfl rfl Tryz.ntmps86 rfl ?_
 refine QN hX ?_;refine QK (Qb ?_);refine QO hX ?_;refine QK (Qa ?_);refine QK (Qy ?_);refine QK ?_
 refine QJ en71 ?_
 refine is_w (ts := typeTexts) (ps.gr (Gr.alloc _ _)) obj_new (by simp) rfl (by decide) fun h1 g1 => ?_
 refine QK (Qb ?_);refine QM ?_
 refine ⟨_, Wwres, ?_⟩
 exact hq _ ((Gr.alloc _ _).trans g1)

theorem none_w {h : Heap} {Q : ARes → Prop} (hq : ∀ h', Gr h h' → Q (.ret (.agg #[.int .i64 8, .string .empty, .int .i64 0, .int .i64 0, .string .empty, .int .i64 0, .slice none 0 0]) h')) :
  WCall Tryz.prog G X 78 [] h Q := by
 refine WCall.walk hX Tryz.func78 rfl rfl Tryz.ntmps78 rfl ?_
 refine QN hX ?_;refine QK (Qw ?_);refine QO hX ?_;refine QK (Qn ?_);refine QK (Qv ?_);refine QM ?_
 refine ⟨_, Wwres, ?_⟩
 exact hq _ (Gr.put (Gr.alloc _ _) (Nat.le_refl _))

theorem node_w {kind : Int} {t : Tok} {text : ByteArray} {b : Option Addr} {n es : Nat} {h : Heap} {Q : ARes → Prop}
  (hq : ∀ h', Gr h h' → Q (.ret (.agg #[.int .i64 kind, .string text, .int .i64 0, .int .i64 t.pos, .string .empty, .int .i64 0, .slice b n es]) h')) :
  WCall Tryz.prog G X 74 [.int .i64 kind, .agg t.cells.toArray, .string text, .slice b n es] h Q := by
 refine WCall.walk hX Tryz.func74 rfl rfl Tryz.ntmps74 rfl ?_
 refine QN hX ?_;refine QK (Qx ?_);refine QK (Qw ?_);refine QO hX ?_;refine QK (Qa ?_);refine QK (Qa ?_);refine QK (Qj ?_);refine QK (Qt ?_);refine QK (Qa ?_);refine QK (Qn ?_);refine QK (Qv ?_);refine QM ?_
 refine ⟨_, Wwres, ?_⟩
 exact hq _ Wwgr


theorem PSt.keep {h h' : Heap} {p : Nat} {L : List Tok} {hd : Bool} {s : St} (ps : PSt h p L hd s) (hn : h.next ≤ h'.next) (hk : ∀ j, j ≤ p → h'.obj j = h.obj j) : PSt h' p L hd s := by
 obtain ⟨j, hj, h1, h2⟩ := ps.tok
 exact ⟨Nat.lt_of_lt_of_le ps.lt hn, ⟨j, hj, by rw [hk p (Nat.le_refl _)]; exact h1, by rw [hk j (Nat.le_of_lt hj)]; exact h2⟩, ps.at_, ps.wf⟩
theorem Fr1.keep {p : Nat} {h H h' : Heap} (fr : Fr1 p h H) (hn : H.next ≤ h'.next) (hk : ∀ j, j < h.next → h'.obj j = H.obj j) : Fr1 p h h' := ⟨Nat.le_trans fr.1 hn, fun j hj hp => (hk j hj).trans (fr.2 j hj hp)⟩
theorem KV.ne {h : Heap} {o : Nat} {b : Option Addr} {n es : Nat} {kids : List Nd} (hk : KV h (fun j => o < j) b n es kids) : ∀ j, j ≤ o → ∀ off, b ≠ some ⟨j, off, none⟩ := by
 intro j hj off e
 rcases hk with ⟨rfl, _⟩ | ⟨i, cells, rfl, h1, _⟩
 ·cases e
 ·cases e; omega

theorem KV.ge {h : Heap} {S : Nat → Prop} {b : Option Addr} {n es : Nat} {kids : List Nd} (hk : KV h S b n es kids) : ∀ j, h.next ≤ j → ∀ off, b ≠ some ⟨j, off, none⟩ := by
 intro j hj off e
 rcases hk with ⟨rfl, _⟩ | ⟨i, cells, rfl, _, h1, _⟩
 ·cases e
 ·cases e; omega

def CN (f : FuncId) (spec : PF Nd) : Prop := ∀ {p : Nat} {L : List Tok} {hd : Bool} {s : St} {h : Heap} {Q : ARes → Prop}, PSt h p L hd s → EndN (VN (fun j => h.next ≤ j)) p L hd h Q (spec L hd s) → WCall Tryz.prog G X f [pV p] h Q
def CK (f : FuncId) (spec : PF (List Nd)) : Prop := ∀ {p : Nat} {L : List Tok} {hd : Bool} {s : St} {h : Heap} {Q : ARes → Prop}, PSt h p L hd s → EndN (VK (fun j => h.next ≤ j)) p L hd h Q (spec L hd s) → WCall Tryz.prog G X f [pV p] h Q

structure Ctr (r : Rec) : Prop where
 typ : CN 75 r.typ
 function : CK 76 r.function
 block : CN 88 r.block
 stmts : CK 93 r.stmts
 stmt : CN 105 r.stmt
 nested : CN 121 r.nested
 branch : CN 120 r.branch
 expr : CN 119 r.expr
 unary : CN 143 r.unary
 primary : CN 139 r.primary
 simple : CN 133 r.simple
 binary : ∀ {least : Int}, 0 ≤ least → least ≤ 6 → ∀ {p : Nat} {L : List Tok} {hd : Bool} {s : St} {h : Heap} {Q : ARes → Prop}, PSt h p L hd s → EndN (VN (fun j => h.next ≤ j)) p L hd h Q (r.binary least L hd s) → WCall Tryz.prog G X 134 [pV p, .int .i64 least] h Q

end Go.Proofs.ZL
end

section
open Go Go.Am
namespace Go.Proofs.ZL
set_option maxRecDepth 100000
set_option linter.unusedSimpArgs false
set_option linter.unusedVariables false
set_option maxHeartbeats 4000000

theorem block_w {r : Rec} (c : Ctr r) : CN 88 (blockF r) := by
 intro p L hd s h Q ps hq0
 have hp := ps.lt
 unfold blockF at hq0
 refine WCall.walk hX Tryz.func88 rfl rfl Tryz.ntmps88 rfl ?_
 refine QN hX ?_;refine QK (Qw ?_);refine QO hX ?_;refine QK (Qa ?_);refine QK ?_
 refine QJ en53 ?_
 refine want_w (hd := hd) Wwps (EndN.use Wwfr hq0 (fun _ _ x => x) fun tk1 s1 h1 v1 ps1 fr1 hv1 hq1 => ?_)
 subst hv1
 have hn1 := fr1.1; (try simp only [UB, UC] at hn1)
 refine QK (Qw ?_);refine QK (Qv ?_);refine QL ?_;refine QU hX ?_;refine WC.drawn (id := 2) hX (l := [⟨0, .read, 0⟩, ⟨1, .pure, 0⟩, ⟨4, .alloc, 0⟩, ⟨2, .heavy, 2⟩, ⟨3, .heavy, 7⟩, ⟨5, .heavy, 31⟩]) (hw := ?_);refine QX (k := Qu ?_);refine QW (k := Qa ?_);refine WD.alloc (hw := Qw ?_);refine WD.heavy hX (hw := ?_)
 refine QJ en93 ?_
 refine c.stmts Wwps (EndN.use Wwfr hq1 (fun _ _ x => x) fun t2 s2 h2 v2 ps2 fr2 hv2 hq2 => ?_)
 obtain ⟨b2, n2, es2, rfl, kv2⟩ := hv2
 have hn2 := fr2.1; (try simp only [UB, UC] at hn2)
 refine WD.heavy hX (hw := ?_)
 refine QJ en74 ?_
 refine node_w fun h3 g3 => ?_
 have hn3 := g3.1; (try simp only [UB, UC] at hn3)
 refine WD.heavy hX (hw := Qv ?_);refine WD.nil (hq := ?_);refine QN hX ?_;refine QK (Qa ?_);refine QK ?_
 refine QJ en53 ?_
 refine want_w (hd := hd) Wwps (EndN.use Wwfr hq2 (fun _ _ x => x) fun tk4 s4 h4 v4 ps4 fr4 hv4 hq4 => ?_)
 subst hv4
 have hn4 := fr4.1; (try simp only [UB, UC] at hn4)
 refine QO hX ?_;refine QK (Qu ?_);refine QK (Qv ?_);refine QM ?_
 refine ⟨_, Wwres, ?_⟩
 exact hq4 _ _ Wwps Wwfr ⟨_, _, _, rfl, NV.of_kids (kv2.mono Wwne (fun j hS hj => by (try simp only [UB, UC] at hS); exact ⟨Wwne, Wwag⟩)) _ _ _ _ _ _⟩

theorem WF.name {L : List Tok} (w : WF L) {s : St} (hk : s.k < L.length) (h : (tokAt L s.k).kind = 1) : s.k + 1 < L.length := w.more hk (by omega)


theorem typ_w {r : Rec} {n : Nat} (hn : n ≤ 1000000) (c : Ctr r) : CN 75 (typF n r) := by
 intro p L hd s h Q ps hq0
 have hp := ps.lt
 unfold typF at hq0
 refine WCall.walk hX Tryz.func75 rfl rfl Tryz.ntmps75 rfl ?_
 refine QN hX ?_;refine QK (Qw ?_);refine QL ?_;refine QU hX ?_;refine QN hX ?_;refine QK (Qa ?_);refine QK ?_
 refine QJ en86 ?_
 refine begins_w (L := L) (hd := hd) (s := s) Wwps fun h1 g1 => ?_
 have hn1 := g1.1; (try simp only [UB, UC] at hn1)
 cases hb : isR L s typeTexts
 ·rw [hb, if_neg Bool.false_ne_true] at hq0
  refine QK (Qe ?_);refine QQ hX ?_;refine QV hX ?_;refine QK (Qa ?_);refine QK ?_
  refine QJ en77 ?_
  exact failN_w (hd := hd) Wwps Wwfr hq0 (fun _ _ x => x)
 ·rw [hb, if_pos rfl] at hq0
  refine QK (Qe ?_);refine QP hX ?_;refine UA ?_;refine QN hX ?_;refine QK (Qa ?_);refine QK ?_
  refine QJ en72 ?_
  refine take_w (L := L) (hd := hd) (s := s) Wwps (ps.wf.is ps.at_ hb) fun h2 ps2 fr2 => ?_
  have hn2 := fr2.1; (try simp only [UB, UC] at hn2)
  simp only at hq0
  generalize tokAt L s.k = tk at *
  refine QK (Qw ?_);refine QK (Qv ?_);refine QO hX ?_;refine QK (Qj ?_);refine QK (Qt ?_);refine QL ?_;refine WC.block hX ?_;refine QN hX ?_;refine QK (QB ?_ ?_);intro hh;refine QK (Qb ?_);refine QQ hX ?_;refine QN hX ?_;refine QK (Qu ?_);refine QK ?_;rotate_left;intro hh;refine QK (Qb ?_);refine QP hX ?_;refine QN hX ?_;refine QK (QB ?_ ?_);intro hh;refine QK (Qb ?_);refine QQ hX ?_;refine QN hX ?_;refine QK (Qu ?_);refine QK ?_;rotate_left;intro hh;refine QK (Qb ?_);refine QP hX ?_;refine QN hX ?_;refine QK (QB ?_ ?_);intro hh;refine QK (Qb ?_);refine QQ hX ?_;refine QN hX ?_;refine QK (Qu ?_);refine QK ?_;rotate_left;intro hh;refine QK (Qb ?_);refine QP hX ?_;refine QN hX ?_;refine QK (QB ?_ ?_);intro hh;refine QK (Qb ?_);refine QQ hX ?_;refine QU hX ?_;refine WC.drawn (id := 24) hX (l := [⟨0, .read, 0⟩, ⟨1, .pure, 0⟩, ⟨2, .heavy, 2⟩, ⟨3, .pure, 6⟩, ⟨4, .heavy, 15⟩, ⟨5, .heavy, 31⟩]) (hw := ?_);refine QX (k := Qu ?_);refine QW (k := Qa ?_);refine WD.heavy hX (hw := ?_);rotate_left;intro hh;refine QK (Qb ?_);refine QP hX ?_;refine QN hX ?_;refine QK (QB ?_ ?_);intro hh;refine QK (Qb ?_);refine QQ hX ?_;refine QN hX ?_;refine QK (Qa ?_);refine QK ?_;rotate_left;intro hh;refine QK (Qb ?_);refine QP hX ?_;refine QN hX ?_;refine QK (QB ?_ ?_);intro hh;refine QK (Qb ?_);refine QQ hX ?_;refine QU hX ?_;refine WC.drawn (id := 29) hX (l := [⟨0, .read, 0⟩, ⟨1, .pure, 0⟩, ⟨2, .heavy, 2⟩, ⟨3, .alloc, 6⟩, ⟨4, .heavy, 15⟩, ⟨5, .heavy, 31⟩]) (hw := ?_);refine QX (k := Qu ?_);refine QW (k := Qa ?_);refine WD.heavy hX (hw := ?_);rotate_left;intro hh;refine QK (Qb ?_);refine QP hX ?_;refine QN hX ?_;refine QK (Qa ?_);refine QK ?_;rotate_left
  all_goals (repeat (first | rw [if_pos (by assumption)] at hq0 | rw [if_neg (by assumption)] at hq0))
  ·refine QJ en74 ?_
   refine node_w fun h3 g3 => ?_
   have hn3 := g3.1; (try simp only [UB, UC] at hn3)
   refine QK (Qv ?_);refine QM ?_
   refine ⟨_, Wwres, ?_⟩
   exact hq0 _ _ Wwps Wwfr ⟨_, _, _, rfl, NV.of_kids (KV.nil _ _) _ _ _ _ _ _⟩
  ·refine QJ en74 ?_
   refine node_w fun h3 g3 => ?_
   have hn3 := g3.1; (try simp only [UB, UC] at hn3)
   refine QK (Qv ?_);refine QM ?_
   refine ⟨_, Wwres, ?_⟩
   exact hq0 _ _ Wwps Wwfr ⟨_, _, _, rfl, NV.of_kids (KV.nil _ _) _ _ _ _ _ _⟩
  ·refine QJ en74 ?_
   refine node_w fun h3 g3 => ?_
   have hn3 := g3.1; (try simp only [UB, UC] at hn3)
   refine QK (Qv ?_);refine QM ?_
   refine ⟨_, Wwres, ?_⟩
   exact hq0 _ _ Wwps Wwfr ⟨_, _, _, rfl, NV.of_kids (KV.nil _ _) _ _ _ _ _ _⟩
  ·refine QJ en73 ?_
   refine name_w (hd := hd) Wwps (EndN.use Wwfr hq0 (fun _ _ x => x) fun tk3 s3 h3 v3 ps3 fr3 hv3 hq3 => ?_)
   subst hv3
   have hn3 := fr3.1; (try simp only [UB, UC] at hn3)
   refine QW (k := Qk ?_);refine WD.heavy hX (hw := ?_)
   refine QJ en74 ?_
   refine node_w fun h4 g4 => ?_
   have hn4 := g4.1; (try simp only [UB, UC] at hn4)
   refine WD.heavy hX (hw := Qv ?_);refine WD.nil (hq := ?_);refine WC.ret ?_
   refine ⟨_, Wwres, ?_⟩
   exact hq3 _ _ Wwps Wwfr ⟨_, _, _, rfl, NV.of_kids (KV.nil _ _) _ _ _ _ _ _⟩
  ·refine QJ en53 ?_
   refine want_w (hd := hd) Wwps (EndN.use Wwfr hq0 (fun _ _ x => x) fun tk3 s3 h3 v3 ps3 fr3 hv3 hq3 => ?_)
   subst hv3
   have hn3 := fr3.1; (try simp only [UB, UC] at hn3)
   refine QL ?_;refine QU hX ?_;refine WC.drawn (id := 27) hX (l := [⟨0, .read, 0⟩, ⟨1, .pure, 0⟩, ⟨2, .heavy, 2⟩, ⟨3, .alloc, 6⟩, ⟨4, .heavy, 15⟩, ⟨5, .heavy, 31⟩]) (hw := ?_);refine QX (k := Qu ?_);refine QW (k := Qa ?_);refine WD.heavy hX (hw := ?_)
   refine QJ en75 ?_
   refine c.typ Wwps (EndN.use Wwfr hq3 (fun _ _ x => x) fun t4 s4 h4 v4 ps4 fr4 hv4 hq4 => ?_)
   obtain ⟨b4, n4, es4, rfl, kv4⟩ := hv4
   have hn4 := fr4.1; (try simp only [UB, UC] at hn4)
   refine WD.alloc (hw := Qz ?_);refine WD.heavy hX (hw := ?_)
   refine QJ en74 ?_
   refine node_w fun h5 g5 => ?_
   have hn5 := g5.1; (try simp only [UB, UC] at hn5)
   refine WD.heavy hX (hw := Qv ?_);refine WD.nil (hq := ?_);refine WC.ret ?_
   refine ⟨_, Wwres, ?_⟩
   exact hq4 _ _ Wwps Wwfr ⟨_, _, _, rfl, NV.of_kids (KV.one (S := fun j => h.next ≤ j ∧ j < h4.next) Wwne Wwne Wwobj (kv4.mono Wwne (fun j hS hj => by (try simp only [UB, UC] at hS); exact ⟨⟨Wwne, hj⟩, Wwag⟩)) (fun j hS hj => ⟨hS.1, by have := hS.2; exact Wwne⟩)) _ _ _ _ _ _⟩
  ·refine QJ en75 ?_
   refine c.typ Wwps (EndN.use Wwfr hq0 (fun _ _ x => x) fun t4 s4 h4 v4 ps4 fr4 hv4 hq4 => ?_)
   obtain ⟨b4, n4, es4, rfl, kv4⟩ := hv4
   have hn4 := fr4.1; (try simp only [UB, UC] at hn4)
   refine WD.alloc (hw := Qz ?_);refine WD.heavy hX (hw := ?_)
   refine QJ en74 ?_
   refine node_w fun h5 g5 => ?_
   have hn5 := g5.1; (try simp only [UB, UC] at hn5)
   refine WD.heavy hX (hw := Qv ?_);refine WD.nil (hq := ?_);refine WC.ret ?_
   refine ⟨_, Wwres, ?_⟩
   exact hq4 _ _ Wwps Wwfr ⟨_, _, _, rfl, NV.of_kids (KV.one (S := fun j => h.next ≤ j ∧ j < h4.next) Wwne Wwne Wwobj (kv4.mono Wwne (fun j hS hj => by (try simp only [UB, UC] at hS); exact ⟨⟨Wwne, hj⟩, Wwag⟩)) (fun j hS hj => ⟨hS.1, by have := hS.2; exact Wwne⟩)) _ _ _ _ _ _⟩
  ·refine QJ en53 ?_
   refine want_w (hd := hd) Wwps (EndN.use Wwfr hq0 (fun _ _ x => x) fun tk3 s3 h3 v3 ps3 fr3 hv3 hq3 => ?_)
   subst hv3
   have hn3 := fr3.1; (try simp only [UB, UC] at hn3)
   refine QO hX ?_;refine QK (Qu ?_);refine QK ?_
   refine QJ en74 ?_
   refine node_w fun h4 g4 => ?_
   have hn4 := g4.1; (try simp only [UB, UC] at hn4)
   refine QK (Qw ?_);refine QK (Qv ?_);refine QL ?_;refine QU hX ?_;refine WC.block hX ?_
   refine WC.loopInv hX (α := Nat × List Nd × St) (m := fun a => a.1) (Inv := fun a e h' => e 0 = some (pV p) ∧ e 2 = some (.pointer (some ⟨h.next, 0, none⟩)) ∧ e 4 = some (.pointer (some ⟨h4.next, 0, none⟩)) ∧ PSt h' p L hd a.2.2 ∧ Fr1 p h h' ∧
    h'.obj h.next = some (.cells false [.int .i64 0, .string .empty, .int .i64 0, .int .i64 0, .string .empty, .int .i64 0, .slice none 0 0]) ∧ h4.next < h'.next ∧ a.1 + a.2.1.length ≤ n ∧ (∃ b n es, h'.obj h4.next = some (.cells false (ncells (nd 15 tk (⟨#[]⟩ : ByteArray) a.2.1) b n es)) ∧ KV h' (fun j => h4.next < j) b n es a.2.1) ∧
    EndN (VN fun j => h.next ≤ j) p L hd h Q ((untilR L [(⟨#[41]⟩ : ByteArray)] (fun kids s => (sepR L s kids.isEmpty).then fun _ s => (r.typ L hd s).then fun x s => .ok (kids ++ [x]) s) a.1 a.2.1 a.2.2).then fun kids s =>
     if isR L s.next typeTexts then (r.typ L hd s.next).then fun x s => .ok (nd 15 tk (⟨#[]⟩ : ByteArray) (kids ++ [x])) s else .ok (nd 15 tk (⟨#[]⟩ : ByteArray) (kids ++ [noneN])) s.next))
    (n, [], s3) ⟨rfl, rfl, rfl, Wwps, Wwfr, Wwobj, Wwne, by simp, ⟨none, 0, 0, Wwobj, KV.nil _ _⟩, hq3⟩ ?_
   rintro ⟨m, kids, s5⟩ env h5 ih ⟨e0, e2, e4, ps5, fr5, ho5, hn5, hm5, ⟨b5, n5, es5, hk5, kv5⟩, hq5⟩
   simp only at ps5 hm5 hk5 kv5 hq5
   have hnn5 := fr5.1
   obtain ⟨m, rfl⟩ : ∃ m', m = m' + 1 := by
    cases m with
    | zero => exact hq5.elim
    | succ m => exact ⟨m, rfl⟩
   unfold untilR at hq5
   have hl5 := kv5.len
   refine QU hX ?_;refine QN hX ?_;refine QK (Qa ?_);refine QK (Qy ?_);refine QK ?_
   refine QJ en71 ?_
   refine is_w (L := L) (hd := hd) (s := s5) (ts := [(⟨#[41]⟩ : ByteArray)]) Wwps Wwobj Wwne rfl (by first | decide | simp) fun h6 g6 => ?_
   have hn6 := g6.1; (try simp only [UB, UC] at hn6)
   cases hb6 : isR L s5 [(⟨#[41]⟩ : ByteArray)]
   ·rw [hb6, if_neg Bool.false_ne_true] at hq5
    simp only [R.then_assoc] at hq5
    unfold sepR at hq5
    refine QK (Qe ?_);refine QQ hX ?_;refine UA ?_;refine WC.block hX ?_;refine QU hX ?_;refine QN hX ?_;refine QK (Qj ?_);refine QK (Qt ?_);refine QK (Qs ?_);refine QK (QH ?_ ?_);intro hh;refine QQ hX ?_;refine QV hX ?_;refine QK (Qa ?_);refine QK ?_;rotate_left;intro hh;refine QP hX ?_;refine UA ?_;refine WC.drawn (id := 10) hX (l := [⟨0, .pure, 0⟩, ⟨1, .read, 1⟩, ⟨2, .pure, 0⟩, ⟨3, .heavy, 4⟩, ⟨4, .alloc, 12⟩, ⟨5, .heavy, 31⟩, ⟨6, .pure, 63⟩, ⟨7, .heavy, 127⟩]) (hw := ?_);refine QW (k := Qj ?_);refine QX (k := Qt ?_);refine QW (k := Qa ?_);refine WD.heavy hX (hw := ?_);rotate_left
    ·have he : kids.isEmpty = false := by
      cases kids with
      | nil => simp at hl5; omega
      | cons a l => rfl
     rw [he, if_neg Bool.false_ne_true, R.then_assoc] at hq5
     refine QJ en53 ?_
     refine want_w (hd := hd) Wwps (EndN.use Wwfr hq5 (fun _ _ x => x) fun tk7 s7 h7 v7 ps7 fr7 hv7 hq7 => ?_)
     subst hv7
     have hn7 := fr7.1; (try simp only [UB, UC] at hn7)
     (try simp only [R.then_ok] at hq7)
     refine QL ?_;refine WC.drawn (id := 10) hX (l := [⟨0, .pure, 0⟩, ⟨1, .read, 1⟩, ⟨2, .pure, 0⟩, ⟨3, .heavy, 4⟩, ⟨4, .alloc, 12⟩, ⟨5, .heavy, 31⟩, ⟨6, .pure, 63⟩, ⟨7, .heavy, 127⟩]) (hw := ?_);refine QW (k := Qj ?_);refine QX (k := Qt ?_);refine QW (k := Qa ?_);refine WD.heavy hX (hw := ?_)
     refine QJ en75 ?_
     refine c.typ Wwps (EndN.use Wwfr hq7 (fun _ _ x => x) fun t8 s8 h8 v8 ps8 fr8 hv8 hq8 => ?_)
     obtain ⟨b8, n8, es8, rfl, kv8⟩ := hv8
     have hn8 := fr8.1; (try simp only [UB, UC] at hn8)
     (try simp only [R.then_ok] at hq8)
     refine WD.alloc (hw := Qz ?_);refine WD.heavy hX (hw := ?_)
     have kvH := kv5.mono (S' := fun j => h4.next < j) (h' := (h8).alloc (.cells false (ncells t8 b8 n8 es8))) Wwne (fun j hS hj => ⟨Wwne, Wwag⟩)
     have hbne := kvH.ne
     obtain ⟨old, hsa, hol, hold⟩ := kvH.sliceAt
     have hol2 : kids.length ≤ 1000000 := by omega
     apply WS.append
     (· rfl); (· rfl); (· exact Wwev); (· exact Wwev); (· rfl); (· rfl); (· intro k hk; cases hk); (· exact fits_at rfl); (· decide); (· exact Wwobj); (· exact Wwlen); (· rfl); (· unfold room; omega); (· rfl); (· exact hsa)
     intro h9 hn9 ho9 hf9
     simp only [UB, UC] at hn9 ho9 hf9
     have hk9 : ∀ j, j ≤ h4.next → h9.obj j = ((h8).alloc (.cells false (ncells t8 b8 n8 es8))).obj j := fun j hj => hf9 j (by omega) (hbne j hj)
     have fr9 : Fr1 p h h9 := Fr1.keep (H := (h8).alloc (.cells false (ncells t8 b8 n8 es8))) Wwfr Wwne fun j hj => hk9 j (by omega)
     have kv9 : KV h9 (fun j => h4.next < j) (some ⟨(h8).next + 1, 0, none⟩) (n5 + 1) 7 (kids ++ [t8]) := KV.snoc (h := (h8).alloc (.cells false (ncells t8 b8 n8 es8))) (S2 := fun j => h5.next ≤ j ∧ j < (h8).next) hol (by omega) hold (kv8.mono Wwne (fun j hS hj => by (try simp only [UB, UC] at hS); exact ⟨⟨Wwne, Wwne⟩, Wwag⟩)) Wwne ho9 hf9 Wwne (fun x hx _ => by omega) (fun x hx hlt => ⟨by have := hx.1; omega, kv5.ge x hx.1⟩)
     have ps9 : PSt h9 p L hd s8 := PSt.keep (h := h8.alloc (.cells false (ncells t8 b8 n8 es8))) Wwps Wwne fun j hj => hk9 j (by omega)
     have ho9a : h9.obj h.next = some (.cells false [.int .i64 0, .string .empty, .int .i64 0, .int .i64 0, .string .empty, .int .i64 0, .slice none 0 0]) := (hk9 _ (by omega)).trans Wwobj
     have ho9b : h9.obj h4.next = some (.cells false (ncells (nd 15 tk (⟨#[]⟩ : ByteArray) kids) b5 n5 es5)) := (hk9 _ (by omega)).trans Wwobj
     refine QW (k := Qj ?_);refine WD.heavy hX (hw := Qv ?_);refine WD.nil (hq := ?_)
     exact ih (m, kids ++ [t8], s8) _ _ (by simp) ⟨e0, e2, e4, Wwps, Wwfr, Wwobj, Wwne, by simp; omega, ⟨_, _, _, Wwobj, kv9.mono Wwne (fun j hS hj => by (try simp only [UB, UC] at hS); exact ⟨Wwne, Wwag⟩)⟩, hq8⟩
    ·have he : kids.isEmpty = true := by
      cases kids with
      | nil => rfl
      | cons a l => simp at hl5; omega
     rw [he, if_pos rfl, R.then_ok] at hq5
     skip
     refine QJ en75 ?_
     refine c.typ Wwps (EndN.use Wwfr hq5 (fun _ _ x => x) fun t8 s8 h8 v8 ps8 fr8 hv8 hq8 => ?_)
     obtain ⟨b8, n8, es8, rfl, kv8⟩ := hv8
     have hn8 := fr8.1; (try simp only [UB, UC] at hn8)
     (try simp only [R.then_ok] at hq8)
     refine WD.alloc (hw := Qz ?_);refine WD.heavy hX (hw := ?_)
     have kvH := kv5.mono (S' := fun j => h4.next < j) (h' := (h8).alloc (.cells false (ncells t8 b8 n8 es8))) Wwne (fun j hS hj => ⟨Wwne, Wwag⟩)
     have hbne := kvH.ne
     obtain ⟨old, hsa, hol, hold⟩ := kvH.sliceAt
     have hol2 : kids.length ≤ 1000000 := by omega
     apply WS.append
     (· rfl); (· rfl); (· exact Wwev); (· exact Wwev); (· rfl); (· rfl); (· intro k hk; cases hk); (· exact fits_at rfl); (· decide); (· exact Wwobj); (· exact Wwlen); (· rfl); (· unfold room; omega); (· rfl); (· exact hsa)
     intro h9 hn9 ho9 hf9
     simp only [UB, UC] at hn9 ho9 hf9
     have hk9 : ∀ j, j ≤ h4.next → h9.obj j = ((h8).alloc (.cells false (ncells t8 b8 n8 es8))).obj j := fun j hj => hf9 j (by omega) (hbne j hj)
     have fr9 : Fr1 p h h9 := Fr1.keep (H := (h8).alloc (.cells false (ncells t8 b8 n8 es8))) Wwfr Wwne fun j hj => hk9 j (by omega)
     have kv9 : KV h9 (fun j => h4.next < j) (some ⟨(h8).next + 1, 0, none⟩) (n5 + 1) 7 (kids ++ [t8]) := KV.snoc (h := (h8).alloc (.cells false (ncells t8 b8 n8 es8))) (S2 := fun j => h5.next ≤ j ∧ j < (h8).next) hol (by omega) hold (kv8.mono Wwne (fun j hS hj => by (try simp only [UB, UC] at hS); exact ⟨⟨Wwne, Wwne⟩, Wwag⟩)) Wwne ho9 hf9 Wwne (fun x hx _ => by omega) (fun x hx hlt => ⟨by have := hx.1; omega, kv5.ge x hx.1⟩)
     have ps9 : PSt h9 p L hd s8 := PSt.keep (h := h8.alloc (.cells false (ncells t8 b8 n8 es8))) Wwps Wwne fun j hj => hk9 j (by omega)
     have ho9a : h9.obj h.next = some (.cells false [.int .i64 0, .string .empty, .int .i64 0, .int .i64 0, .string .empty, .int .i64 0, .slice none 0 0]) := (hk9 _ (by omega)).trans Wwobj
     have ho9b : h9.obj h4.next = some (.cells false (ncells (nd 15 tk (⟨#[]⟩ : ByteArray) kids) b5 n5 es5)) := (hk9 _ (by omega)).trans Wwobj
     refine QW (k := Qj ?_);refine WD.heavy hX (hw := Qv ?_);refine WD.nil (hq := ?_)
     exact ih (m, kids ++ [t8], s8) _ _ (by simp) ⟨e0, e2, e4, Wwps, Wwfr, Wwobj, Wwne, by simp; omega, ⟨_, _, _, Wwobj, kv9.mono Wwne (fun j hS hj => by (try simp only [UB, UC] at hS); exact ⟨Wwne, Wwag⟩)⟩, hq8⟩
   ·rw [hb6, if_pos rfl, R.then_ok] at hq5
    refine QK (Qe ?_);refine QP hX ?_;refine WC.exit ?_;refine exit_here ?_;refine QN hX ?_;refine QK (Qa ?_);refine QK ?_
    refine QJ en72 ?_
    refine take_w (L := L) (hd := hd) (s := s5) Wwps (ps5.wf.is ps5.at_ hb6) fun h7 ps7 fr7 => ?_
    have hn7 := fr7.1; (try simp only [UB, UC] at hn7)
    refine QO hX ?_;refine QK ?_
    refine QJ en78 ?_
    refine none_w fun h8 g8 => ?_
    have hn8 := g8.1; (try simp only [UB, UC] at hn8)
    refine QK (Qw ?_);refine QK (Qv ?_);refine QL ?_;refine QU hX ?_;refine QN hX ?_;refine QK (Qa ?_);refine QK ?_
    refine QJ en86 ?_
    refine begins_w (L := L) (hd := hd) (s := s5.next) Wwps fun h10 g10 => ?_
    have hn10 := g10.1; (try simp only [UB, UC] at hn10)
    cases hb10 : isR L s5.next typeTexts
    ·rw [hb10, if_neg Bool.false_ne_true] at hq5
     refine QP hX ?_;refine UA ?_;refine QN hX ?_;refine QK (Qj ?_);refine QK (Qt ?_);refine QK (Qu ?_);refine QK (Qz ?_);refine QK ?_
     have kvH := kv5.mono (S' := fun j => h4.next < j) (h' := (h10).alloc (.cells false (ncells noneN none 0 0))) Wwne (fun j hS hj => ⟨Wwne, Wwag⟩)
     have hbne := kvH.ne
     obtain ⟨old, hsa, hol, hold⟩ := kvH.sliceAt
     have hol2 : kids.length ≤ 1000000 := by omega
     apply WS.append
     (· rfl); (· rfl); (· exact Wwev); (· exact Wwev); (· rfl); (· rfl); (· intro k hk; cases hk); (· exact fits_at rfl); (· decide); (· exact Wwobj); (· exact Wwlen); (· rfl); (· unfold room; omega); (· rfl); (· exact hsa)
     intro h9 hn9 ho9 hf9
     simp only [UB, UC] at hn9 ho9 hf9
     have hk9 : ∀ j, j ≤ h4.next → h9.obj j = ((h10).alloc (.cells false (ncells noneN none 0 0))).obj j := fun j hj => hf9 j (by omega) (hbne j hj)
     have fr9 : Fr1 p h h9 := Fr1.keep (H := (h10).alloc (.cells false (ncells noneN none 0 0))) Wwfr Wwne fun j hj => hk9 j (by omega)
     have kv9 : KV h9 (fun j => h4.next < j) (some ⟨(h10).next + 1, 0, none⟩) (n5 + 1) 7 (kids ++ [noneN]) := KV.snoc (h := (h10).alloc (.cells false (ncells noneN none 0 0))) (S2 := fun j => h5.next ≤ j ∧ j < (h10).next) hol (by omega) hold (NV.leaf _ _ _ _ _ _) Wwne ho9 hf9 Wwne (fun x hx _ => by omega) (fun x hx hlt => ⟨by have := hx.1; omega, kv5.ge x hx.1⟩)
     have ps9 : PSt h9 p L hd s5.next := PSt.keep (h := h10.alloc (.cells false (ncells noneN none 0 0))) Wwps Wwne fun j hj => hk9 j (by omega)
     have ho9a : h9.obj h.next = some (.cells false [.int .i64 0, .string .empty, .int .i64 0, .int .i64 0, .string .empty, .int .i64 0, .slice none 0 0]) := (hk9 _ (by omega)).trans Wwobj
     have ho9b : h9.obj h4.next = some (.cells false (ncells (nd 15 tk (⟨#[]⟩ : ByteArray) kids) b5 n5 es5)) := (hk9 _ (by omega)).trans Wwobj
     refine QK (Qj ?_);refine QK (Qv ?_);refine QO hX ?_;refine QK (Qu ?_);refine QK (Qv ?_);refine QM ?_
     refine ⟨_, Wwres, ?_⟩
     exact hq5 _ _ Wwps Wwfr ⟨_, _, _, rfl, NV.of_kids (kv9.mono Wwne (fun j hS hj => by (try simp only [UB, UC] at hS); exact ⟨Wwne, Wwag⟩)) _ _ _ _ _ _⟩
    ·rw [hb10, if_pos rfl] at hq5
     refine QQ hX ?_;refine QV hX ?_;refine QK (Qa ?_);refine QK ?_
     refine QJ en75 ?_
     refine c.typ Wwps (EndN.use Wwfr hq5 (fun _ _ x => x) fun t11 s11 h11 v11 ps11 fr11 hv11 hq11 => ?_)
     obtain ⟨b11, n11, es11, rfl, kv11⟩ := hv11
     have hn11 := fr11.1; (try simp only [UB, UC] at hn11)
     refine QK (Qv ?_);refine QO hX ?_;refine QK (Qj ?_);refine QK (Qt ?_);refine QK (Qu ?_);refine QK (Qz ?_);refine QK ?_
     have kvH := kv5.mono (S' := fun j => h4.next < j) (h' := (h11.put h8.next (some (.cells false (ncells t11 b11 n11 es11)))).alloc (.cells false (ncells t11 b11 n11 es11))) Wwne (fun j hS hj => ⟨Wwne, Wwag⟩)
     have hbne := kvH.ne
     obtain ⟨old, hsa, hol, hold⟩ := kvH.sliceAt
     have hol2 : kids.length ≤ 1000000 := by omega
     apply WS.append
     (· rfl); (· rfl); (· exact Wwev); (· exact Wwev); (· rfl); (· rfl); (· intro k hk; cases hk); (· exact fits_at rfl); (· decide); (· exact Wwobj); (· exact Wwlen); (· rfl); (· unfold room; omega); (· rfl); (· exact hsa)
     intro h9 hn9 ho9 hf9
     simp only [UB, UC] at hn9 ho9 hf9
     have hk9 : ∀ j, j ≤ h4.next → h9.obj j = ((h11.put h8.next (some (.cells false (ncells t11 b11 n11 es11)))).alloc (.cells false (ncells t11 b11 n11 es11))).obj j := fun j hj => hf9 j (by omega) (hbne j hj)
     have fr9 : Fr1 p h h9 := Fr1.keep (H := (h11.put h8.next (some (.cells false (ncells t11 b11 n11 es11)))).alloc (.cells false (ncells t11 b11 n11 es11))) Wwfr Wwne fun j hj => hk9 j (by omega)
     have kv9 : KV h9 (fun j => h4.next < j) (some ⟨(h11.put h8.next (some (.cells false (ncells t11 b11 n11 es11)))).next + 1, 0, none⟩) (n5 + 1) 7 (kids ++ [t11]) := KV.snoc (h := (h11.put h8.next (some (.cells false (ncells t11 b11 n11 es11)))).alloc (.cells false (ncells t11 b11 n11 es11))) (S2 := fun j => h5.next ≤ j ∧ j < (h11.put h8.next (some (.cells false (ncells t11 b11 n11 es11)))).next) hol (by omega) hold (kv11.mono Wwne (fun j hS hj => by (try simp only [UB, UC] at hS); exact ⟨⟨Wwne, Wwne⟩, Wwag⟩)) Wwne ho9 hf9 Wwne (fun x hx _ => by omega) (fun x hx hlt => ⟨by have := hx.1; omega, kv5.ge x hx.1⟩)
     have ps9 : PSt h9 p L hd s11 := PSt.keep (h := (h11.put h8.next (some (.cells false (ncells t11 b11 n11 es11)))).alloc (.cells false (ncells t11 b11 n11 es11))) Wwps Wwne fun j hj => hk9 j (by omega)
     have ho9a : h9.obj h.next = some (.cells false [.int .i64 0, .string .empty, .int .i64 0, .int .i64 0, .string .empty, .int .i64 0, .slice none 0 0]) := (hk9 _ (by omega)).trans Wwobj
     have ho9b : h9.obj h4.next = some (.cells false (ncells (nd 15 tk (⟨#[]⟩ : ByteArray) kids) b5 n5 es5)) := (hk9 _ (by omega)).trans Wwobj
     refine QK (Qj ?_);refine QK (Qv ?_);refine QO hX ?_;refine QK (Qu ?_);refine QK (Qv ?_);refine QM ?_
     refine ⟨_, Wwres, ?_⟩
     exact hq11 _ _ Wwps Wwfr ⟨_, _, _, rfl, NV.of_kids (kv9.mono Wwne (fun j hS hj => by (try simp only [UB, UC] at hS); exact ⟨Wwne, Wwag⟩)) _ _ _ _ _ _⟩

end Go.Proofs.ZL
end
