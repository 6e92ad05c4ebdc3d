/- The parser, first part: its pure form, trees, types. -/
import Derived.Test.YtpdkdgfknanipaaGreatDoorYL1
section
open Go Go.Am
namespace Go.Proofs.ZL
set_option maxRecDepth 100000
set_option linter.unusedSimpArgs false
set_option linter.unusedVariables false
set_option maxHeartbeats 4000000
variable {h : aA} {Q : bR → Prop} {L : List Tok} {p : Nat} {hd : Bool} {src : ByteArray}
inductive Nd where
 | mk (kind : Int) (text : ByteArray) (num pos : Int) (cD : ByteArray) (ref : Int) (kids : List Nd)

def Nd.kind : Nd → Int | .mk k _ _ _ _ _ _ => k
def Nd.text : Nd → ByteArray | .mk _ t _ _ _ _ _ => t
def Nd.num : Nd → Int | .mk _ _ n _ _ _ _ => n
def Nd.pos : Nd → Int | .mk _ _ _ p _ _ _ => p
def Nd.cD : Nd → ByteArray | .mk _ _ _ _ t _ _ => t
def Nd.ref : Nd → Int | .mk _ _ _ _ _ r _ => r
def Nd.kids : Nd → List Nd | .mk _ _ _ _ _ _ k => k

structure St where
 k : Nat
 bare : Bool
def St.next (s : St) : St := ⟨s.k + 1, s.bare⟩
def St.goto (s : St) (k : Nat) : St := ⟨k, s.bare⟩
def St.with (s : St) (b : Bool) : St := ⟨s.k, b⟩

inductive R (α : Type) where
 | ok (a : α) (s : St)
 | bad (e : Nat)
 | out
def R.then {α β : Type} (r : R α) (f : α → St → R β) : R β := match r with
 | .ok a s => f a s
 | .bad p => .bad p
 | .out => .out
theorem R.then_ok {α β : Type} (a : α) (s : St) (f : α → St → R β) : (R.ok a s).then f = f a s := rfl
theorem R.then_assoc {α β γ : Type} (r : R α) (f : α → St → R β) (g : β → St → R γ) : (r.then f).then g = r.then fun a s => (f a s).then g := by cases r <;> rfl
abbrev PF (α : Type) := List Tok → Bool → St → R α

def aK (L : List Tok) (k : Nat) : Tok := L.getD k ⟨6, ⟨#[]⟩, 0, 0⟩
def q0 (t : Tok) (ts : List ByteArray) : Bool := (decide (t.kind = 4) || decide (t.kind = 5)) && lR ts t.text
def cC (L : List Tok) (s : St) (ts : List ByteArray) : Bool := q0 (aK L s.k) ts
def fY {α : Type} (_ : List Tok) (s : St) : R α := .bad s.k
def cM (L : List Tok) (s : St) (t : ByteArray) : R Tok := if cC L s [t] then .ok (aK L s.k) s.next else fY L s
def rG (L : List Tok) (s : St) (t : ByteArray) : St := if cC L s [t] then s.next else s
def gB (L : List Tok) (s : St) : R Tok := if (aK L s.k).kind = 1 then .ok (aK L s.k) s.next else fY L s

def c5 : Nd := .mk 8 ⟨#[]⟩ 0 0 ⟨#[]⟩ 0 []
def nd (kind : Int) (t : Tok) (text : ByteArray) (kids : List Nd) : Nd := .mk kind text 0 t.pos ⟨#[]⟩ 0 kids
def aKl (kind : Int) (pos : Int) (text : ByteArray) (kids : List Nd) : Nd := .mk kind text 0 pos ⟨#[]⟩ 0 kids

structure Rec where
 cD : PF Nd
 function : PF (List Nd)
 block : PF Nd
 stmts : PF (List Nd)
 stmt : PF Nd
 nested : PF Nd
 branch : PF Nd
 expr : PF Nd
 binary : Int → PF Nd
 unary : PF Nd
 cH : PF Nd
 simple : PF Nd

def Rec.none : Rec := ⟨fun _ _ _ => .out, fun _ _ _ => .out, fun _ _ _ => .out, fun _ _ _ => .out, fun _ _ _ => .out, fun _ _ _ => .out, fun _ _ _ => .out, fun _ _ _ => .out, fun _ _ _ _ => .out, fun _ _ _ => .out, fun _ _ _ => .out, fun _ _ _ => .out⟩

def dI {α : Type} (L : List Tok) (ts : List ByteArray) (f : α → St → R α) : Nat → α → St → R α
 | 0, _, _ => .out
 | n + 1, a, s => if cC L s ts then .ok a s else (f a s).then fun a s => dI L ts f n a s

def gY : List ByteArray := [⟨#[105, 110, 116]⟩, ⟨#[98, 111, 111, 108]⟩, ⟨#[115, 116, 114, 105, 110, 103]⟩, ⟨#[42]⟩, ⟨#[91]⟩, ⟨#[99, 104, 97, 110]⟩, ⟨#[102, 117, 110, 99]⟩]
def nS : List ByteArray := [⟨#[125]⟩, ⟨#[99, 97, 115, 101]⟩, ⟨#[100, 101, 102, 97, 117, 108, 116]⟩]

def sW (L : List Tok) (s : St) (first : Bool) : R Unit := if first then .ok () s else (cM L s ⟨#[44]⟩).then fun _ s => .ok () s

def aCc (n : Nat) (r : Rec) : PF Nd := fun L hd s =>
 if cC L s gY then
  let t := aK L s.k
  if t.text = ⟨#[105, 110, 116]⟩ then .ok (nd 9 t ⟨#[]⟩ []) s.next
  else if t.text = ⟨#[98, 111, 111, 108]⟩ then .ok (nd 10 t ⟨#[]⟩ []) s.next
  else if t.text = ⟨#[115, 116, 114, 105, 110, 103]⟩ then .ok (nd 11 t ⟨#[]⟩ []) s.next
  else if t.text = ⟨#[42]⟩ then (gB L s.next).then fun x s => .ok (nd 12 t x.text []) s
  else if t.text = ⟨#[91]⟩ then (cM L s.next ⟨#[93]⟩).then fun _ s => (r.cD L hd s).then fun x s => .ok (nd 13 t ⟨#[]⟩ [x]) s
  else if t.text = ⟨#[99, 104, 97, 110]⟩ then (r.cD L hd s.next).then fun x s => .ok (nd 14 t ⟨#[]⟩ [x]) s
  else (cM L s.next ⟨#[40]⟩).then fun _ s =>
   (dI L [⟨#[41]⟩] (fun kids s => (sW L s kids.isEmpty).then fun _ s => (r.cD L hd s).then fun x s => .ok (kids ++ [x]) s) n [] s).then fun kids s =>
   let s := s.next
   if cC L s gY then (r.cD L hd s).then fun x s => .ok (nd 15 t ⟨#[]⟩ (kids ++ [x])) s
   else .ok (nd 15 t ⟨#[]⟩ (kids ++ [c5])) s
 else fY L s

def jB (n : Nat) (r : Rec) : PF (List Nd) := fun L hd s =>
 (cM L s ⟨#[40]⟩).then fun t s =>
 (dI L [⟨#[41]⟩] (fun kids s => (sW L s kids.isEmpty).then fun _ s => (gB L s).then fun x s => (r.cD L hd s).then fun y s => .ok (kids ++ [nd 7 x x.text [y]]) s) n [] s).then fun kids s =>
 let s := s.next
 (if cC L s [⟨#[123]⟩] then .ok c5 s else r.cD L hd s).then fun result s =>
 (r.block L false s).then fun b s => .ok [nd 6 t ⟨#[]⟩ kids, result, b] s

def pF (r : Rec) : PF Nd := fun L hd s =>
 (cM L s ⟨#[123]⟩).then fun t s => (r.stmts L hd s).then fun kids s => (cM L s ⟨#[125]⟩).then fun _ s => .ok (nd 16 t ⟨#[]⟩ kids) s

def kM (r : Rec) (L : List Tok) (hd : Bool) : Nat → List Nd → St → R (List Nd)
 | 0, _, _ => .out
 | n + 1, out, s =>
  if cC L s [⟨#[59]⟩] then kM r L hd n out s.next
  else if cC L s nS then .ok out s
  else (r.stmt L hd s).then fun x s =>
   (if cC L s nS then .ok () s else (cM L s ⟨#[59]⟩).then fun _ s => .ok () s).then fun _ s => kM r L hd n (out ++ [x]) s
def rM (n : Nat) (r : Rec) : PF (List Nd) := fun L hd s => kM r L hd n [] s

def qB (n : Nd) : Bool := decide (n.text = ⟨#[109, 97, 107, 101]⟩) || decide (n.text = ⟨#[110, 101, 119]⟩)
def fX (n : Nd) : Bool := decide (n.kind = 43) || (decide (n.kind = 44) && !qB n)
def fA (n : Nd) : Bool := decide (n.kind = 40) || decide (n.kind = 45) || decide (n.kind = 47)

def pJ (r : Rec) : PF Nd := fun L hd s =>
 (r.cH L hd s).then fun n s => if !fX n || s.bare then fY L s else .ok n s

def nZ (r : Rec) (n : Nd) (bare : Bool) : PF Nd := fun L hd s =>
 let t := aK L s.k
 if cC L s [⟨#[58, 61]⟩] && decide (n.kind = 40) && !bare then (r.expr L hd s.next).then fun e s => .ok (aKl 17 n.pos n.text [e]) s
 else if cC L s [⟨#[61]⟩, ⟨#[43, 61]⟩, ⟨#[45, 61]⟩, ⟨#[42, 61]⟩] && fA n && !bare then (r.expr L hd s.next).then fun e s => .ok (nd 19 t t.text [n, e]) s
 else if cC L s [⟨#[43, 43]⟩, ⟨#[45, 45]⟩] && fA n && !bare then .ok (nd 20 t t.text [n]) s.next
 else if cC L s [⟨#[60, 45]⟩] then (r.expr L hd s.next).then fun e s => .ok (nd 33 t ⟨#[]⟩ [n, e]) s
 else if fX n && !bare then .ok (aKl 34 n.pos ⟨#[]⟩ [n]) s
 else fY L s

def mS (r : Rec) : PF Nd := fun L hd s =>
 if cC L s [⟨#[60, 45]⟩] then
  let t := aK L s.k
  (r.unary L hd s.next).then fun u s => .ok (nd 34 t ⟨#[]⟩ [nd 41 t ⟨#[60, 45]⟩ [u]]) s
 else (r.cH L hd s).then fun n s => nZ r n s.bare L hd s

def jR (t : Tok) (x : ByteArray) : Bool := decide (t.kind = 5) && decide (t.text = x)

def l7 (r : Rec) : PF Nd := fun L hd s =>
 let t := aK L s.k
 if decide (t.kind = 1) && jR (aK L (s.k + 1)) ⟨#[58]⟩ then
  let s := s.goto (s.k + 2)
  if cC L s [⟨#[102, 111, 114]⟩, ⟨#[115, 119, 105, 116, 99, 104]⟩, ⟨#[115, 101, 108, 101, 99, 116]⟩] then (r.nested L hd s).then fun x s => .ok (nd 35 t t.text [x]) s
  else fY L s
 else r.simple L hd s

def uX (r : Rec) : PF Nd := fun L hd s =>
 let t := aK L s.k
 if t.kind ≠ 4 then (if cC L s [⟨#[123]⟩] then r.block L hd s else l7 r L hd s)
 else if t.text = ⟨#[118, 97, 114]⟩ then
  (gB L s.next).then fun n s => (r.cD L hd s).then fun ty s =>
  (if cC L s [⟨#[61]⟩] then r.expr L hd s.next else .ok c5 s).then fun e s => .ok (nd 18 t n.text [ty, e]) s
 else if t.text = ⟨#[105, 102]⟩ then r.branch L hd s
 else if t.text = ⟨#[102, 111, 114]⟩ ∨ t.text = ⟨#[115, 119, 105, 116, 99, 104]⟩ ∨ t.text = ⟨#[115, 101, 108, 101, 99, 116]⟩ then r.nested L hd s
 else if t.text = ⟨#[98, 114, 101, 97, 107]⟩ ∨ t.text = ⟨#[99, 111, 110, 116, 105, 110, 117, 101]⟩ then
  let s := s.next
  let kind : Int := if t.text = ⟨#[98, 114, 101, 97, 107]⟩ then 27 else 28
  if (aK L s.k).kind = 1 then .ok (nd kind t (aK L s.k).text []) s.next else .ok (nd kind t ⟨#[]⟩ []) s
 else if t.text = ⟨#[102, 97, 108, 108, 116, 104, 114, 111, 117, 103, 104]⟩ then .ok (nd 29 t ⟨#[]⟩ []) s.next
 else if t.text = ⟨#[114, 101, 116, 117, 114, 110]⟩ then
  let s := s.next
  if cC L s [⟨#[59]⟩, ⟨#[125]⟩, ⟨#[99, 97, 115, 101]⟩, ⟨#[100, 101, 102, 97, 117, 108, 116]⟩] then .ok (nd 30 t ⟨#[]⟩ [c5]) s else (r.expr L hd s).then fun e s => .ok (nd 30 t ⟨#[]⟩ [e]) s
 else if t.text = ⟨#[103, 111]⟩ ∨ t.text = ⟨#[100, 101, 102, 101, 114]⟩ then
  (pJ r L hd s.next).then fun c s => .ok (nd (if t.text = ⟨#[100, 101, 102, 101, 114]⟩ then 32 else 31) t ⟨#[]⟩ [c]) s
 else l7 r L hd s

def mG (r : Rec) : PF Nd := fun L hd s =>
 let t := aK L s.k
 if t.kind = 6 then .out else
 (r.expr L true s.next).then fun c s => (r.block L hd s).then fun b s =>
 (if cC L s [⟨#[101, 108, 115, 101]⟩] then
  let s := s.next
  if cC L s [⟨#[105, 102]⟩] then r.branch L hd s else r.block L hd s
 else .ok c5 s).then fun o s => .ok (nd 21 t ⟨#[]⟩ [c, b, o]) s

def fJ (r : Rec) : PF Nd := fun L hd s => (cM L s ⟨#[58]⟩).then fun t s => (r.stmts L hd s).then fun kids s => .ok (nd 16 t ⟨#[]⟩ kids) s

def jO (r : Rec) (L : List Tok) (hd : Bool) : Nat → List Nd → St → R (List Nd)
 | 0, _, _ => .out
 | n + 1, kids, s => if cC L s [⟨#[44]⟩] then (r.expr L hd s.next).then fun e s => jO r L hd n (kids ++ [e]) s else .ok kids s

def mH (n : Nat) (r : Rec) : PF Nd := fun L hd s =>
 let t := aK L s.k
 if cC L s [⟨#[100, 101, 102, 97, 117, 108, 116]⟩] then (fJ r L hd s.next).then fun b s => .ok (nd 24 t ⟨#[100, 101, 102, 97, 117, 108, 116]⟩ [b]) s
 else (cM L s ⟨#[99, 97, 115, 101]⟩).then fun _ s => (r.expr L hd s).then fun e s => (jO r L hd n [e] s).then fun kids s =>
  (fJ r L hd s).then fun b s => .ok (nd 24 t ⟨#[99, 97, 115, 101]⟩ (kids ++ [b])) s

def uE (r : Rec) : PF Nd := fun L hd s =>
 let t := aK L s.k
 if cC L s [⟨#[100, 101, 102, 97, 117, 108, 116]⟩] then (fJ r L hd s.next).then fun b s => .ok (nd 26 t ⟨#[100, 101, 102, 97, 117, 108, 116]⟩ [b]) s
 else (cM L s ⟨#[99, 97, 115, 101]⟩).then fun _ s =>
  let n := aK L s.k
  (if decide (n.kind = 1) && jR (aK L (s.k + 1)) ⟨#[58, 61]⟩ then
   (if cC L (s.goto (s.k + 2)) [⟨#[60, 45]⟩] then .ok [nd 7 n n.text []] (s.goto (s.k + 2)) else fY L (s.goto (s.k + 2)))
  else .ok [] s).then fun kids s =>
  if cC L s [⟨#[60, 45]⟩] then (r.unary L hd s.next).then fun u s => (fJ r L hd s).then fun b s => .ok (nd 26 t ⟨#[114, 101, 99, 118]⟩ (kids ++ [u] ++ [b])) s
  else (r.cH L hd s).then fun c s => (cM L s ⟨#[60, 45]⟩).then fun _ s => (r.expr L hd s).then fun e s => (fJ r L hd s).then fun b s => .ok (nd 26 t ⟨#[115, 101, 110, 100]⟩ [c, e, b]) s

def gL (n : Nat) (one : PF Nd) : PF (List Nd) := fun L _ s =>
 (cM L s ⟨#[123]⟩).then fun _ s => (dI L [⟨#[125]⟩] (fun out s => (one L false s).then fun x s => .ok (out ++ [x]) s) n [] s).then fun out s => .ok out s.next

def pO (r : Rec) : PF (Nd × Bool) := fun L _ s0 =>
 (r.expr L true s0).then fun e s =>
 let single0 := !cC L s0 [⟨#[45]⟩, ⟨#[33]⟩, ⟨#[60, 45]⟩]
 let receives := decide (e.kind = 41) && decide (e.text = ⟨#[60, 45]⟩) && cC L s0 [⟨#[60, 45]⟩]
 let single := (single0 && decide (e.kind ≠ 42)) || (decide (e.kind = 42) && s.bare)
 if cC L s [⟨#[123]⟩] then .ok (e, false) s
 else if receives then (if cC L s [⟨#[59]⟩] then .ok (aKl 34 e.pos ⟨#[]⟩ [e], true) s else fY L s)
 else if !single then fY L s
 else (nZ r e s.bare L true s).then fun x s => if cC L s [⟨#[59]⟩] then .ok (x, true) s else fY L s

def yU (r : Rec) (t : Tok) (L : List Tok) (hd : Bool) (f : Nd) (cl : Nd × Nd) (s : St) : R Nd := (r.block L hd s).then fun b s => .ok (nd 22 t ⟨#[]⟩ [f, cl.1, cl.2, b]) s
def yT (r : Rec) (t : Tok) (L : List Tok) (hd : Bool) (fc : Nd × Nd) (s : St) : R Nd :=
 (if cC L s [⟨#[59]⟩] then
  (if cC L s.next [⟨#[59]⟩] then .ok fc.2 s.next else r.expr L true s.next).then fun c s =>
  (cM L s ⟨#[59]⟩).then fun _ s =>
  (if cC L s [⟨#[123]⟩] then .ok c5 s else r.simple L true s).then fun l s => .ok (c, l) s
 else .ok (fc.2, c5) s).then (yU r t L hd fc.1)
def sE (r : Rec) (t : Tok) : PF Nd := fun L hd s =>
  (if cC L s [⟨#[123]⟩, ⟨#[59]⟩] then .ok (c5, c5) s
   else (pO r L hd s).then fun x s => .ok (if x.2 then (x.1, c5) else (c5, x.1)) s).then (yT r t L hd)

def mP (n : Nat) (r : Rec) : PF Nd := fun L hd s =>
 let t := aK L s.k
 if t.kind = 6 then .out else
 let s := s.next
 if t.text = ⟨#[102, 111, 114]⟩ then sE r t L hd s
 else if t.text = ⟨#[115, 119, 105, 116, 99, 104]⟩ then
  (if cC L s [⟨#[123]⟩] then .ok c5 s else r.expr L true s).then fun e s => (gL n (mH n r) L hd s).then fun cs s => .ok (nd 23 t ⟨#[]⟩ (e :: cs)) s
 else (gL n (uE r) L hd s).then fun cs s => .ok (nd 25 t ⟨#[]⟩ cs) s

def level (t : Tok) : Int :=
 if t.kind ≠ 5 then 0
 else if t.text = ⟨#[124, 124]⟩ then 1
 else if t.text = ⟨#[38, 38]⟩ then 2
 else if lR [⟨#[61, 61]⟩, ⟨#[33, 61]⟩, ⟨#[60]⟩, ⟨#[60, 61]⟩, ⟨#[62]⟩, ⟨#[62, 61]⟩] t.text then 3
 else if lR [⟨#[43]⟩, ⟨#[45]⟩] t.text then 4
 else if lR [⟨#[42]⟩, ⟨#[47]⟩, ⟨#[37]⟩] t.text then 5
 else 0

def iE (r : Rec) (least : Int) (L : List Tok) (hd : Bool) : Nat → Nd → St → R Nd
 | 0, _, _ => .out
 | n + 1, left, s =>
  let t := aK L s.k
  if level t < least ∨ level t = 0 then .ok left s
  else (r.binary (level t + 1) L hd s.next).then fun right s => iE r least L hd n (nd 42 t t.text [left, right]) (s.with false)
def oF (n : Nat) (r : Rec) (least : Int) : PF Nd := fun L hd s => (r.unary L hd s).then fun u s => iE r least L hd n u s

def qA (r : Rec) : PF Nd := fun L hd s =>
 if cC L s [⟨#[45]⟩, ⟨#[33]⟩, ⟨#[60, 45]⟩] then
  let t := aK L s.k
  (r.unary L hd s.next).then fun u s => .ok (nd 41 t t.text [u]) (s.with false)
 else r.cH L hd s

def eA (n : Nat) (r : Rec) (e : ByteArray) : PF (List Nd) := fun L hd s =>
 (dI L [e] (fun out s => (sW L s out.isEmpty).then fun _ s => (r.expr L hd s).then fun x s => .ok (out ++ [x]) s) n [] s).then fun out s => .ok out s.next

def pL (L : List Tok) (s : St) : R Unit := if cC L s [⟨#[125]⟩] then .ok () s else (cM L s ⟨#[44]⟩).then fun _ s => .ok () s

def fZ (r : Rec) (L : List Tok) (hd : Bool) (one : St → R Nd) : Nat → List Nd → St → R (List Nd)
 | 0, _, _ => .out
 | n + 1, out, s => if cC L s [⟨#[125]⟩] then .ok out s.next else (one s).then fun x s => (pL L s).then fun _ s => fZ r L hd one n (out ++ [x]) s

def kI (n : Nat) (r : Rec) (t : Tok) : PF Nd := fun L hd s =>
 if t.text = ⟨#[40]⟩ then (r.expr L false s.next).then fun e s => (cM L s ⟨#[41]⟩).then fun _ s => .ok e s
 else if hd then fY L s
 else if t.text = ⟨#[38]⟩ then
  (gB L s.next).then fun x s => (cM L s ⟨#[123]⟩).then fun _ s =>
  (fZ r L hd (fun s => (gB L s).then fun y s => (cM L s ⟨#[58]⟩).then fun _ s => (r.expr L hd s).then fun e s => .ok (nd 5 y y.text [e]) s) n [] s).then fun kids s =>
  .ok (nd 49 t x.text kids) s
 else if t.text = ⟨#[91]⟩ then
  (cM L s.next ⟨#[93]⟩).then fun _ s => (r.cD L hd s).then fun ty s => (cM L s ⟨#[123]⟩).then fun _ s =>
  (fZ r L hd (fun s => r.expr L hd s) n [ty] s).then fun kids s => .ok (nd 50 t ⟨#[]⟩ kids) s
 else fY L s

def gU : List ByteArray := [⟨#[97, 112, 112, 101, 110, 100]⟩, ⟨#[99, 97, 112]⟩, ⟨#[99, 108, 111, 115, 101]⟩, ⟨#[108, 101, 110]⟩, ⟨#[112, 97, 110, 105, 99]⟩, ⟨#[112, 114, 105, 110, 116]⟩, ⟨#[114, 101, 99, 111, 118, 101, 114]⟩]

def kN (n : Nat) (r : Rec) (t : Tok) : PF Nd := fun L hd s =>
 if t.text = ⟨#[116, 114, 117, 101]⟩ ∨ t.text = ⟨#[102, 97, 108, 115, 101]⟩ then .ok (nd 38 t t.text []) s.next
 else if t.text = ⟨#[110, 105, 108]⟩ then .ok (nd 39 t ⟨#[]⟩ []) s.next
 else if t.text = ⟨#[102, 117, 110, 99]⟩ then (r.function L hd s.next).then fun kids s => .ok (nd 48 t ⟨#[]⟩ kids) s
 else if t.text = ⟨#[109, 97, 107, 101]⟩ then
  (cM L s.next ⟨#[40]⟩).then fun _ s => (r.cD L hd s).then fun ty s =>
  (if cC L s [⟨#[44]⟩] then (r.expr L false s.next).then fun e s => .ok [ty, e] s else .ok [ty] s).then fun kids s =>
  (cM L s ⟨#[41]⟩).then fun _ s => .ok (nd 44 t t.text kids) s
 else if t.text = ⟨#[110, 101, 119]⟩ then
  (cM L s.next ⟨#[40]⟩).then fun _ s => (gB L s).then fun x s => (cM L s ⟨#[41]⟩).then fun _ s => .ok (nd 44 t t.text [nd 12 x x.text []]) s
 else if lR gU t.text then
  (cM L s.next ⟨#[40]⟩).then fun _ s => (eA n r ⟨#[41]⟩ L false s).then fun kids s => .ok (nd 44 t t.text kids) s
 else fY L s

def kU (n : Nat) (r : Rec) : PF Nd := fun L hd s =>
 let t := aK L s.k
 if t.kind = 2 then .ok (.mk 36 ⟨#[]⟩ t.num t.pos ⟨#[]⟩ 0 []) s.next
 else if t.kind = 3 then .ok (nd 37 t t.text []) s.next
 else if t.kind = 1 then .ok (nd 40 t t.text []) s.next
 else if t.kind = 5 then kI n r t L hd s
 else if t.kind = 4 then kN n r t L hd s
 else fY L s

def l4 (r : Rec) (t : Tok) (n : Nd) : PF Nd := fun L hd s =>
 let slice (low : Nd) (s : St) : R Nd :=
  (cM L s ⟨#[58]⟩).then fun _ s => (if cC L s [⟨#[93]⟩] then .ok c5 s else r.expr L hd s).then fun high s =>
  (cM L s ⟨#[93]⟩).then fun _ s => .ok (nd 46 t ⟨#[]⟩ [n, low, high]) s
 if cC L s [⟨#[58]⟩] then slice c5 s
 else (r.expr L hd s).then fun low s => if cC L s [⟨#[93]⟩] then .ok (nd 45 t ⟨#[]⟩ [n, low]) s.next else slice low s

def gW (nn : Nat) (r : Rec) (L : List Tok) : Nat → Nd → Bool → St → R (Nd × Bool)
  | 0, _, _, _ => .out
  | n + 1, x, bare, s =>
    if cC L s [⟨#[40]⟩, ⟨#[91]⟩, ⟨#[46]⟩] then
      let t := aK L s.k
      let s := s.next
      (if t.text = ⟨#[40]⟩ then (eA nn r ⟨#[41]⟩ L false s).then fun args s => .ok (nd 43 t ⟨#[]⟩ (x :: args)) s
       else if t.text = ⟨#[91]⟩ then l4 r t x L false s
       else (gB L s).then fun y s => .ok (nd 47 t y.text [x]) s).then fun x s => gW nn r L n x false s
    else .ok (x, bare) s

def l8 (n : Nat) (r : Rec) : PF Nd := fun L hd s =>
 let bare := cC L s [⟨#[40]⟩]
 (kU n r L hd s).then fun x s => (gW n r L n x bare s).then fun y s => .ok y.1 (s.with y.2)

def Rec.step (n : Nat) (r : Rec) : Rec where
 cD := aCc n r
 function := jB n r
 block := pF r
 stmts := rM n r
 stmt := uX r
 nested := mP n r
 branch := mG r
 expr := r.binary 1
 binary := oF n r
 unary := qA r
 cH := l8 n r
 simple := mS r

def qQ : Nat → Rec
 | 0 => .none
 | n + 1 => (qQ n).step n

def r6 (r : Rec) (L : List Tok) (hd : Bool) : Nat → List Nd → St → R (List Nd) := dI L [⟨#[125]⟩] fun kids s =>
 (gB L s).then fun f s => (r.cD L hd s).then fun y s => (cM L s ⟨#[59]⟩).then fun _ s => .ok (kids ++ [nd 5 f f.text [y]]) s

def uF (n : Nat) (r : Rec) : PF Nd := fun L hd s =>
 let t := aK L s.k
 if cC L s [⟨#[116, 121, 112, 101]⟩] then
  (gB L s.next).then fun x s => (cM L s ⟨#[115, 116, 114, 117, 99, 116]⟩).then fun _ s => (cM L s ⟨#[123]⟩).then fun _ s =>
  (r6 r L hd n [] s).then fun kids s => .ok (nd 2 t x.text kids) s.next
 else if cC L s [⟨#[118, 97, 114]⟩] then (gB L s.next).then fun x s => (r.cD L hd s).then fun y s => .ok (nd 3 t x.text [y]) s
 else if cC L s [⟨#[102, 117, 110, 99]⟩] then (gB L s.next).then fun x s => (r.function L hd s).then fun kids s => .ok (nd 4 t x.text kids) s
 else fY L s

def nC (n : Nat) (r : Rec) (L : List Tok) (hd : Bool) : Nat → List Nd → St → R (List Nd)
 | 0, _, _ => .out
 | m + 1, kids, s => if (aK L s.k).kind = 6 then .ok kids s
  else (uF n r L hd s).then fun d s => (cM L s ⟨#[59]⟩).then fun _ s => nC n r L hd m (kids ++ [d]) s
def lH (n : Nat) (r : Rec) : PF Nd := fun L hd s => (nC n r L hd n [] s).then fun kids s => .ok (.mk 1 ⟨#[]⟩ 0 0 ⟨#[]⟩ 0 kids) s

inductive NV (h : aA) (S : Nat → Prop) : List Value → Nd → Prop
 | leaf (kind : Int) (text : ByteArray) (num pos : Int) (cD : ByteArray) (ref : Int) :
   NV h S [.int .i64 kind, .string text, .int .i64 num, .int .i64 pos, .string cD, .int .i64 ref, .slice none 0 0] (.mk kind text num pos cD ref [])
 | node (kind : Int) (text : ByteArray) (num pos : Int) (cD : ByteArray) (ref : Int) (kids : List Nd) (i : Nat) (cells : List Value) : S i → i < h.next → h.obj i = some (.cells false cells) → kids.length * 7 ≤ cells.length →
   (∀ j t, kids[j]? = some t → NV h S ((cells.drop (j * 7)).take 7) t) →
   NV h S [.int .i64 kind, .string text, .int .i64 num, .int .i64 pos, .string cD, .int .i64 ref, .slice (some ⟨i, 0, none⟩) kids.length 7] (.mk kind text num pos cD ref kids)

theorem NV.mono {h h' : aA} {S S' : Nat → Prop} {vs : List Value} {t : Nd} (hn : h.next ≤ h'.next) (ho : ∀ j, S j → j < h.next → S' j ∧ h'.obj j = h.obj j) (hv : NV h S vs t) : NV h' S' vs t := by
 induction hv with
 | leaf kind text num pos cD ref => exact .leaf kind text num pos cD ref
 | node kind text num pos cD ref kids i cells h1 h2 h3 h4 _ ih =>
  exact .node kind text num pos cD ref kids i cells (ho i h1 h2).1 (Nat.lt_of_lt_of_le h2 hn) (by rw [(ho i h1 h2).2]; exact h3) h4 ih

def KV (h : aA) (S : Nat → Prop) (b : Option Addr) (n es : Nat) (kids : List Nd) : Prop :=
 (b = none ∧ n = 0 ∧ es = 0 ∧ kids = []) ∨ ∃ i cells, b = some ⟨i, 0, none⟩ ∧ S i ∧ i < h.next ∧ es = 7 ∧ n = kids.length ∧ h.obj i = some (.cells false cells) ∧ kids.length * 7 ≤ cells.length ∧
  ∀ j t, kids[j]? = some t → NV h (fun x => S x ∧ x ≠ i) ((cells.drop (j * 7)).take 7) t

theorem KV.mono {h h' : aA} {S S' : Nat → Prop} {b : Option Addr} {n es : Nat} {kids : List Nd} (hn : h.next ≤ h'.next) (ho : ∀ j, S j → j < h.next → S' j ∧ h'.obj j = h.obj j) (hk : KV h S b n es kids) : KV h' S' b n es kids := by
 rcases hk with ⟨rfl, rfl, rfl, rfl⟩ | ⟨i, cells, rfl, h1, h2, rfl, rfl, h3, h4, h5⟩
 ·exact .inl ⟨rfl, rfl, rfl, rfl⟩
 ·exact .inr ⟨i, cells, rfl, (ho i h1 h2).1, Nat.lt_of_lt_of_le h2 hn, rfl, rfl, by rw [(ho i h1 h2).2]; exact h3, h4, fun j t ht => (h5 j t ht).mono hn fun x hx hlt => ⟨⟨(ho x hx.1 hlt).1, hx.2⟩, (ho x hx.1 hlt).2⟩⟩

theorem NV.kp {h h' : aA} {S S' : Nat → Prop} {vs : List Value} {t : Nd} (hk : NV h S vs t) (hn : h.next ≤ h'.next := by exact aB) (ho : ∀ j, S j → j < h.next → S' j ∧ h'.obj j = h.obj j := by (intro j hS hj; (try simp only [UB, UC] at hS); first | exact ⟨aB, bB⟩ | exact ⟨⟨aB, aB⟩, bB⟩ | exact ⟨⟨aB, aB, aB⟩, bB⟩)) : NV h' S' vs t := NV.mono hn ho hk
theorem KV.kp {h h' : aA} {S S' : Nat → Prop} {b : Option Addr} {n es : Nat} {kids : List Nd} (hk : KV h S b n es kids) (hn : h.next ≤ h'.next := by exact aB) (ho : ∀ j, S j → j < h.next → S' j ∧ h'.obj j = h.obj j := by (intro j hS hj; (try simp only [UB, UC] at hS); first | exact ⟨aB, bB⟩ | exact ⟨⟨aB, aB⟩, bB⟩ | exact ⟨⟨aB, aB, aB⟩, bB⟩)) : KV h' S' b n es kids := KV.mono hn ho hk
theorem KV.nil (h : aA) (S : Nat → Prop) : KV h S none 0 0 [] := .inl ⟨rfl, rfl, rfl, rfl⟩
theorem KV.len {S : Nat → Prop} {b : Option Addr} {n es : Nat} {kids : List Nd} (hk : KV h S b n es kids) : n = kids.length := by
 rcases hk with ⟨_, rfl, _, rfl⟩ | ⟨i, cells, _, _, _, _, rfl, _⟩ <;> rfl

theorem NV.aZ {S : Nat → Prop} {b : Option Addr} {n es : Nat} {kids : List Nd} (hk : KV h S b n es kids) (kind : Int) (text : ByteArray) (num pos : Int) (cD : ByteArray) (ref : Int) :
  NV h S [.int .i64 kind, .string text, .int .i64 num, .int .i64 pos, .string cD, .int .i64 ref, .slice b n es] (.mk kind text num pos cD ref kids) := by
 rcases hk with ⟨rfl, rfl, rfl, rfl⟩ | ⟨i, cells, rfl, h1, h2, rfl, rfl, h3, h4, h5⟩
 ·exact .leaf kind text num pos cD ref
 ·exact .node kind text num pos cD ref kids i cells h1 h2 h3 h4 fun j t ht => (h5 j t ht).mono (Nat.le_refl _) fun x hx _ => ⟨hx.1, rfl⟩

theorem NV.len {S : Nat → Prop} {vs : List Value} {t : Nd} (hv : NV h S vs t) : vs.length = 7 := by cases hv <;> rfl

theorem KV.fresh {S S' : Nat → Prop} {i : Nat} {kids : List Nd} {vss : List (List Value)} (hi : S' i) (hlt : i < h.next) (ho : h.obj i = some (.cells false vss.flatten)) (hl : vss.length = kids.length)
  (hS : ∀ j, S j → j < h.next → S' j ∧ j ≠ i) (hk : ∀ (j : Nat) (t : Nd) (vs : List Value), kids[j]? = some t → vss[j]? = some vs → NV h S vs t) : KV h S' (some ⟨i, 0, none⟩) kids.length 7 kids := by
 have h7 : ∀ vs ∈ vss, vs.length = 7 := fun vs hvs => by
  obtain ⟨j, hj⟩ := List.getElem?_of_mem hvs
  have hj' : j < vss.length := (List.getElem?_eq_some_iff.1 hj).1
  exact (hk j _ vs (List.getElem?_eq_getElem (by omega)) hj).len
 have hfl : ∀ (l : List (List Value)), (∀ vs ∈ l, vs.length = 7) → l.flatten.length = l.length * 7 ∧ ∀ j vs, l[j]? = some vs → (l.flatten.drop (j * 7)).take 7 = vs := by
  intro l
  induction l with
  | nil => intro _; exact ⟨rfl, fun j vs h => by simp at h⟩
  | cons a l ih =>
   intro hl
   have ha := hl a (List.mem_cons_self ..)
   obtain ⟨i1, i2⟩ := ih fun vs hvs => hl vs (List.mem_cons_of_mem _ hvs)
   refine ⟨by rw [List.flatten_cons, List.length_append, i1, ha, List.length_cons]; omega, fun j vs hj => ?_⟩
   cases j with
   | zero =>
    simp at hj; subst hj
    rw [List.flatten_cons, Nat.zero_mul, List.drop_zero, List.take_left' ha]
   | succ j =>
    simp at hj
    rw [List.flatten_cons, show (j + 1) * 7 = a.length + j * 7 by omega, List.drop_append, ← i2 j vs hj]
    rw [List.drop_eq_nil_of_le (by omega), List.nil_append, Nat.add_sub_cancel_left]
 obtain ⟨f1, f2⟩ := hfl vss h7
 refine .inr ⟨i, vss.flatten, rfl, hi, hlt, rfl, rfl, ho, by omega, fun j t ht => ?_⟩
 have hj : j < kids.length := (List.getElem?_eq_some_iff.1 ht).1
 have hv := List.getElem?_eq_getElem (l := vss) (i := j) (by omega)
 rw [f2 j _ hv]
 exact (hk j t _ ht hv).mono (Nat.le_refl _) fun x hx hl => ⟨hS x hx hl, rfl⟩

def aG (t : Nd) (b : Option Addr) (n es : Nat) : List Value := [.int .i64 t.kind, .string t.text, .int .i64 t.num, .int .i64 t.pos, .string t.cD, .int .i64 t.ref, .slice b n es]
theorem KV.one {S S' : Nat → Prop} {i : Nat} {t : Nd} {b : Option Addr} {n es : Nat} (hi : S' i) (hlt : i < h.next) (ho : h.obj i = some (.cells false (aG t b n es))) (hv : NV h S (aG t b n es) t)
  (hS : ∀ j, S j → j < h.next → S' j ∧ j ≠ i) : KV h S' (some ⟨i, 0, none⟩) 1 7 [t] :=
 KV.fresh (S := S) (kids := [t]) (vss := [aG t b n es]) hi hlt (by simpa using ho) rfl hS fun j u vs h1 h2 => by
  cases j with
  | zero => simp at h1 h2; subst h1; subst h2; exact hv
  | succ j => simp at h1

theorem KV.two {S S' : Nat → Prop} {i : Nat} {t t2 : Nd} {b b2 : Option Addr} {n es n2 es2 : Nat} (hi : S' i) (hlt : i < h.next) (ho : h.obj i = some (.cells false (aG t b n es ++ aG t2 b2 n2 es2))) (hv : NV h S (aG t b n es) t) (hv2 : NV h S (aG t2 b2 n2 es2) t2)
  (hS : ∀ j, S j → j < h.next → S' j ∧ j ≠ i) : KV h S' (some ⟨i, 0, none⟩) 2 7 [t, t2] :=
 KV.fresh (S := S) (kids := [t, t2]) (vss := [aG t b n es, aG t2 b2 n2 es2]) hi hlt (by simpa using ho) rfl hS fun j u vs h1 h2 => by
  rcases j with _ | _ | j
  ·simp at h1 h2; subst h1; subst h2; exact hv
  ·simp at h1 h2; subst h1; subst h2; exact hv2
  ·simp at h1
theorem KV.three {S S' : Nat → Prop} {i : Nat} {t t2 t3 : Nd} {b b2 b3 : Option Addr} {n es n2 es2 n3 es3 : Nat} (hi : S' i) (hlt : i < h.next) (ho : h.obj i = some (.cells false (aG t b n es ++ aG t2 b2 n2 es2 ++ aG t3 b3 n3 es3))) (hv : NV h S (aG t b n es) t) (hv2 : NV h S (aG t2 b2 n2 es2) t2) (hv3 : NV h S (aG t3 b3 n3 es3) t3)
  (hS : ∀ j, S j → j < h.next → S' j ∧ j ≠ i) : KV h S' (some ⟨i, 0, none⟩) 3 7 [t, t2, t3] :=
 KV.fresh (S := S) (kids := [t, t2, t3]) (vss := [aG t b n es, aG t2 b2 n2 es2, aG t3 b3 n3 es3]) hi hlt (by simpa using ho) rfl hS fun j u vs h1 h2 => by
  rcases j with _ | _ | _ | j
  ·simp at h1 h2; subst h1; subst h2; exact hv
  ·simp at h1 h2; subst h1; subst h2; exact hv2
  ·simp at h1 h2; subst h1; subst h2; exact hv3
  ·simp at h1

structure WF (L : List Tok) : Prop where
 size : L.length ≤ 10000
 last : ∀ k, k + 1 = L.length → (aK L k).kind = 6

theorem WF.more (w : WF L) {k : Nat} (hk : k < L.length) (h6 : (aK L k).kind ≠ 6) : k + 1 < L.length := by
 rcases Nat.lt_or_ge (k + 1) L.length with h | h
 ·exact h
 ·exact (h6 (w.last k (by omega))).elim
theorem l5 {t : Tok} {ts : List ByteArray} (h : q0 t ts = true) : t.kind ≠ 6 := by
 unfold q0 at h
 simp only [Bool.and_eq_true, Bool.or_eq_true, decide_eq_true_eq] at h
 omega
theorem WF.is (w : WF L) {s : St} {ts : List ByteArray} (hk : s.k < L.length) (h : cC L s ts = true) : s.k + 1 < L.length := w.more hk (l5 h)

structure cF (h : aA) (p : Nat) (L : List Tok) (hd : Bool) (s : St) : Prop where
 lt : p < h.next
 tok : ∃ j, j < p ∧ h.obj p = some (.cells false [.slice (some ⟨j, 0, none⟩) L.length 4, .int .i64 s.k, .bool hd, .bool s.bare]) ∧ h.obj j = some (.cells false (cellsOf L))
 at_ : s.k < L.length
 wf : WF L

theorem cF.gr {h h' : aA} {s : St} (ps : cF h p L hd s) (g : Gr h h') : cF h' p L hd s := by
 obtain ⟨j, hj, h1, h2⟩ := ps.tok
 exact ⟨Nat.lt_of_lt_of_le ps.lt g.1, ⟨j, hj, g.at ps.lt h1, g.at (Nat.lt_trans hj ps.lt) h2⟩, ps.at_, ps.wf⟩

def aDu (p : Int) (w : ByteArray) : List PanicEntry := [{ v := .iface 60 (.agg #[.int .i64 p, .iface 162 (.string w)]), recovered := false }]

def bT {α : Type} (V : aA → α → Value → Prop) (p : Nat) (L : List Tok) (hd : Bool) (h : aA) (Q : bR → Prop) : R α → Prop
 | .ok a s' => ∀ h' v, cF h' p L hd s' → cJ p h h' → V h' a v → Q (.ret v h')
 | .bad e => ∀ h' w, cJ p h h' → Q (.panic (aDu (aK L e).pos w) h')
 | .out => False

theorem NV.cells {S : Nat → Prop} {vs : List Value} {t : Nd} (hv : NV h S vs t) : ∃ b n es, vs = aG t b n es := by
 cases hv with
 | leaf kind text num pos cD ref => exact ⟨_, _, _, rfl⟩
 | node kind text num pos cD ref kids i cells _ _ _ _ _ => exact ⟨_, _, _, rfl⟩

def VN (S : Nat → Prop) (h : aA) (t : Nd) (v : Value) : Prop := ∃ b n es, v = .agg (aG t b n es).toArray ∧ NV h S (aG t b n es) t
def VK (S : Nat → Prop) (h : aA) (t : List Nd) (v : Value) : Prop := ∃ b n es, v = .slice b n es ∧ KV h S b n es t
def VT (_ : aA) (t : Tok) (v : Value) : Prop := v = .agg t.cells.toArray
def VU {α : Type} (_ : aA) (_ : α) (v : Value) : Prop := v = .tuple #[]

theorem bT.use {α β : Type} {V : aA → α → Value → Prop} {W : aA → β → Value → Prop} {hd hd' : Bool} {h h1 : aA} {Q Q' : bR → Prop} {r : R α} {g : α → St → R β} (fr : cJ p h h1) (hq : bT W p L hd h Q (r.then g))
  (hbad : ∀ ch h', Q (.panic ch h') → Q' (.panic ch h')) (hok : ∀ a s' h2 v, cF h2 p L hd' s' → cJ p h1 h2 → V h2 a v → bT W p L hd h Q (g a s') → Q' (.ret v h2)) : bT V p L hd' h1 Q' r := by
 cases r with
 | ok a s => exact fun h2 v ps fr2 hv => hok a s h2 v ps fr2 hv hq
 | bad pos => exact fun h2 w fr2 => hbad _ _ (hq h2 w (fr.trans fr2))
 | out => exact hq

theorem Nu {β : Type} {W : aA → β → Value → Prop} {p m : Nat} {hd hd' : Bool} {h h1 : aA} {Q Q' : bR → Prop} {S : Nat → Prop} {r : R (Nd)} {g : Nd → St → R β} (hq : bT W p L hd h Q (r.then g)) (fr : cJ p h h1 := by exact aT) (e : h1.next = m := by first | (simp only [UB, UC]; exact rfl) | (simp only [UB, UC]; done) | exact rfl) (hbad : ∀ ch h', Q (.panic ch h') → Q' (.panic ch h') := by exact fun _ _ x => x) (k : ∀ t s' h2 b n es, cF h2 p L hd' s' → cJ p h1 h2 → NV h2 S (aG t b n es) t → m ≤ h2.next → bT W p L hd h Q (g t s') → Q' (.ret (.agg (aG t b n es).toArray) h2)) : bT (VN S) p L hd' h1 Q' r :=
 bT.use fr hq hbad fun t s' h2 v ps f2 hv hq2 => by obtain ⟨b, n, es, rfl, kv⟩ := hv; exact k t s' h2 b n es ps f2 kv (e ▸ f2.1) hq2
theorem Nuk {β : Type} {W : aA → β → Value → Prop} {p m : Nat} {hd hd' : Bool} {h h1 : aA} {Q Q' : bR → Prop} {S : Nat → Prop} {r : R (List Nd)} {g : List Nd → St → R β} (hq : bT W p L hd h Q (r.then g)) (fr : cJ p h h1 := by exact aT) (e : h1.next = m := by first | (simp only [UB, UC]; exact rfl) | (simp only [UB, UC]; done) | exact rfl) (hbad : ∀ ch h', Q (.panic ch h') → Q' (.panic ch h') := by exact fun _ _ x => x) (k : ∀ t s' h2 b n es, cF h2 p L hd' s' → cJ p h1 h2 → KV h2 S b n es t → m ≤ h2.next → bT W p L hd h Q (g t s') → Q' (.ret (.slice b n es) h2)) : bT (VK S) p L hd' h1 Q' r :=
 bT.use fr hq hbad fun t s' h2 v ps f2 hv hq2 => by obtain ⟨b, n, es, rfl, kv⟩ := hv; exact k t s' h2 b n es ps f2 kv (e ▸ f2.1) hq2
theorem cF.alloc {s : St} (ps : cF h p L hd s) (o : dS) : cF (h.alloc o) p L hd s := ps.gr (Gr.alloc _ _)
theorem cF.put {s : St} (ps : cF h p L hd s) {i : Nat} {o : Option dS} (hi : p < i) : cF (h.put i o) p L hd s := by
 obtain ⟨j, hj, h1, h2⟩ := ps.tok
 exact ⟨ps.lt, ⟨j, hj, bF (by omega) h1, bF (by omega) h2⟩, ps.at_, ps.wf⟩

theorem KV.sliceAt {S : Nat → Prop} {b : Option Addr} {n es : Nat} {kids : List Nd} (hk : KV h S b n es kids) : ∃ old, kG h b n es 7 old ∧ old.length = kids.length * 7 ∧
  ∀ (j : Nat) (t : Nd), kids[j]? = some t → NV h (fun x => S x ∧ ∀ off, b ≠ some ⟨x, off, none⟩) ((old.drop (j * 7)).take 7) t := by
 rcases hk with ⟨rfl, rfl, rfl, rfl⟩ | ⟨i, cells, rfl, h1, h2, rfl, rfl, h3, h4, h5⟩
 ·exact ⟨[], .inl ⟨rfl, rfl, rfl, rfl⟩, rfl, fun j t h => by simp at h⟩
 ·refine ⟨cells.take (kids.length * 7), .inr ⟨i, 0, cells, rfl, rfl, h3, by omega, by rw [List.drop_zero]⟩, by rw [List.length_take]; omega, fun j t ht => ?_⟩
  have hj : j < kids.length := (List.getElem?_eq_some_iff.1 ht).1
  have e : ((cells.take (kids.length * 7)).drop (j * 7)).take 7 = (cells.drop (j * 7)).take 7 := by
   rw [List.drop_take, List.take_take, Nat.min_eq_left (by omega)]
  rw [e]
  refine (h5 j t ht).mono (Nat.le_refl _) fun x hx _ => ⟨⟨hx.1, fun off e => ?_⟩, rfl⟩
  cases e; exact hx.2 rfl

theorem KV.snoc {h h1 : aA} {S S2 S' : Nat → Prop} {b : Option Addr} {kids : List Nd} {t : Nd} {old vs : List Value} {n : Nat} (hl : old.length = kids.length * 7) (hn : n = kids.length + 1)
  (hold : ∀ (j : Nat) (t : Nd), kids[j]? = some t → NV h (fun x => S x ∧ ∀ off, b ≠ some ⟨x, off, none⟩) ((old.drop (j * 7)).take 7) t) (hv : NV h S2 vs t)
  (hn1 : h1.next = h.next + 1) (ho1 : h1.obj h.next = some (.cells false (old ++ vs))) (hf : ∀ i, i < h.next → (∀ off, b ≠ some ⟨i, off, none⟩) → h1.obj i = h.obj i)
  (hS : S' h.next) (hS1 : ∀ x, S x → x < h.next → S' x) (hS2 : ∀ x, S2 x → x < h.next → S' x ∧ ∀ off, b ≠ some ⟨x, off, none⟩) : KV h1 S' (some ⟨h.next, 0, none⟩) n 7 (kids ++ [t]) := by
 have h7 := hv.len
 refine .inr ⟨h.next, old ++ vs, rfl, hS, by omega, rfl, by simp [hn], ho1, by simp [hl, h7]; omega, fun j u hj => ?_⟩
 rcases Nat.lt_or_ge j kids.length with h' | h'
 ·rw [List.getElem?_append_left h'] at hj
  have e : ((old ++ vs).drop (j * 7)).take 7 = (old.drop (j * 7)).take 7 := by
   rw [List.drop_append_of_le_length (by omega), List.take_append_of_le_length (by rw [List.length_drop]; omega)]
  rw [e]
  exact (hold j u hj).mono (by omega) fun x hx hlt => ⟨⟨hS1 x hx.1 hlt, by omega⟩, hf x hlt hx.2⟩
 ·have hj' : j < (kids ++ [t]).length := (List.getElem?_eq_some_iff.1 hj).1
  simp only [List.length_append, List.length_singleton] at hj'
  have ej : j = kids.length := by omega
  subst ej
  rw [List.getElem?_append_right (Nat.le_refl _), Nat.sub_self] at hj
  cases hj
  rw [← hl, List.drop_left' rfl, List.take_of_length_le (by omega)]
  exact hv.mono (by omega) fun x hx hlt => ⟨⟨(hS2 x hx hlt).1, by omega⟩, hf x hlt (hS2 x hx hlt).2⟩

abbrev pV (p : Nat) : Value := .pointer (some ⟨p, 0, none⟩)
theorem yZ {k : Nat} (hk : k < L.length) : L[k]? = some (aK L k) := by
 unfold aK; rw [List.getD_eq_getElem?_getD, List.getElem?_eq_getElem hk]; rfl

theorem iU {s : St} (ps : cF h p L hd s) (hq : ∀ h', Gr h h' → Q (.ret (.agg (aK L s.k).cells.toArray) h')) :
  aS Tryz.prog G X 85 [pV p] h Q := by
 obtain ⟨j, hj, ho, hl⟩ := ps.tok
 have hp := ps.lt
 have hk := ps.at_
 have hz := ps.wf.size
 have hget := yZ hk
 generalize aK L s.k = t at *
 refine Wk Tryz.func85 Tryz.ntmps85 (w:=?_)
 refine QN (Mw (w:=QL (QU (Gd [⟨0, .pure, 0⟩, ⟨1, .pure, 1⟩, ⟨2, .pure, 3⟩, ⟨3, .read, 7⟩, ⟨4, .pure, 0⟩, ⟨5, .pure, 16⟩, ⟨6, .pure, 48⟩, ⟨7, .read, 112⟩, ⟨8, .pure, 255⟩, ⟨9, .read, 511⟩, ⟨10, .aF, 1023⟩] (w:=Da (w:=Di (w:=Dj (w:=Rt (w:=Da (w:=Di (w:=Dj (w:=Rt (w:=Dl (w:=?_))))))))))))));refine WD.read (hw := ?_)
 refine WS.pT (vs := t.cells) (hc := ?_) (hv' := ?_) (hk := ?_)
 (· rw [gK]; omega); (· rw [show 0 + (s.k : Int).toNat * 4 = s.k * 4 by omega, rX hget]; rfl)
 refine WD.aF hX (hw := Qv ?_);refine WD.nil (hq:=WC.ret ?_)
 refine ⟨_, aM, ?_⟩
 exact hq _ (Gr.put (Gr.alloc _ _) (Nat.le_refl _))

theorem fB {s : St} {j n : Nat} {ts : List ByteArray} (ps : cF h p L hd s) (ho : h.obj j = some (.cells false (ts.map Value.string))) (hj : j < h.next) (hn : n = ts.length) (hl : ts.length ≤ 1000)
  (hq : ∀ h', Gr h h' → Q (.ret (.bool (cC L s ts)) h')) : aS Tryz.prog G X 110 [pV p, .slice (some ⟨j, 0, none⟩) n 1] h Q := by
 refine Wk Tryz.func110 Tryz.ntmps110 (w:=QN (Mb (w:=QO (Ma (w:=MJ rB (w:=iU ps fun h1 g1 => ?_))))))
 have hr : cC L s ts = q0 (aK L s.k) ts := rfl
 generalize aK L s.k = t at *
 have hn1 := g1.1
 have ho1 := g1.at hj ho
 have hj1 : j < h1.next := Nat.lt_of_lt_of_le hj hn1
 refine Mw (w:=Mv (w:=QO (Mj (w:=Mt (w:=MD (w:=fun hh => Ma (w:=MA (w:=MA (w:=MA (w:=Mc (w:=Ma (w:=Ma (w:=Mj (w:=Mt (w:=QK ?_)))))))))) (v:=fun hh => Ma (w:=Mj (w:=Mt (w:=MD (w:=fun hh => Md (w:=Ma (w:=Ma (w:=Mj (w:=Mt (w:=QK ?_)))))) (v:=fun hh => Md (w:=Ma (w:=MA (w:=MA (w:=MA (w:=MA (w:=Md (w:=Mb (w:=QM ?_))))))))))))))))))
 ·refine QJ aD8 ?_
  refine oG aD hn (by omega) ?_
  have e : cC L s ts = lR ts t.text := by rw [hr]; unfold q0; rw [hh]; simp
  rw [e] at hq
  refine Mc (w:=Mb (w:=QM ?_))
  refine ⟨_, aM, ?_⟩
  exact hq _ fG
 ·refine QJ aD8 ?_
  refine oG aD hn (by omega) ?_
  have e : cC L s ts = lR ts t.text := by rw [hr]; unfold q0; rw [hh]; simp
  rw [e] at hq
  refine Mc (w:=Mb (w:=QM ?_))
  refine ⟨_, aM, ?_⟩
  exact hq _ fG
 ·have e : cC L s ts = false := by rw [hr]; unfold q0; simp [*]
  rw [e] at hq
  refine ⟨_, aM, ?_⟩
  exact hq _ fG

theorem cF.set {h h' : aA} {s : St} (ps : cF h p L hd s) (hd' : Bool) (s' : St) (hn : h.next ≤ h'.next) (ho : ∀ j, j < p → h'.obj j = h.obj j) (hk : s'.k < L.length)
  (hp : ∀ j, h.obj p = some (.cells false [.slice (some ⟨j, 0, none⟩) L.length 4, .int .i64 s.k, .bool hd, .bool s.bare]) → h'.obj p = some (.cells false [.slice (some ⟨j, 0, none⟩) L.length 4, .int .i64 s'.k, .bool hd', .bool s'.bare])) : cF h' p L hd' s' := by
 obtain ⟨j, hj, h1, h2⟩ := ps.tok
 exact ⟨Nat.lt_of_lt_of_le ps.lt hn, ⟨j, hj, hp j h1, by rw [ho j hj]; exact h2⟩, hk, ps.wf⟩

theorem bS {s : St} (ps : cF h p L hd s) (hm : s.k + 1 < L.length) (hq : ∀ h', cF h' p L hd s.next → cJ p h h' → Q (.ret (.agg (aK L s.k).cells.toArray) h')) :
  aS Tryz.prog G X 111 [pV p] h Q := by
 have hz := ps.wf.size
 refine Wk Tryz.func111 Tryz.ntmps111 (w:=QN (Mw (w:=QO (Ma (w:=MJ rB (w:=iU (ps.gr (Gr.alloc _ _)) fun h1 g1 => ?_))))))
 have g0 : Gr h h1 := (Gr.alloc _ _).trans g1
 have ps1 := ps.gr g0
 obtain ⟨j, hj, ho, hl⟩ := ps1.tok
 have hp := ps.lt
 have hn1 := g1.1
 simp only [aA.aC] at hn1
 have hres : h1.obj h.next = some (.cells false [.int .i64 0, .string .empty, .int .i64 0, .int .i64 0]) := g1.at (by simp) cY
 generalize aK L s.k = t at *
 refine Mw (w:=Mv (w:=QO (Ma (w:=Mi (w:=Mj (w:=Mt (w:=Mf (w:=Mi (w:=Mj (w:=Mv (w:=QO (Mu (w:=Mv (w:=QM ?_))))))))))))))
 refine ⟨_, aM, ?_⟩
 refine hq _ ?_ ⟨by simp; omega, fun i hi hip => ?_⟩
 ·refine ps1.set hd s.next (by simp) (fun i hi => ?_) hm fun j' hj' => ?_
  ·refine bF (by omega) (bF (by omega) (bF (by simp; omega) (bX (by simp; omega) rfl)))
  ·rw [ho] at hj'
   cases hj'
   refine bF (by omega) ?_
   exact eG
 ·refine bF (by omega) (bF (by omega) (bF (by simp; omega) (bX (by simp; omega) ?_)))
  exact g0.2 i hi

theorem aMz {s : St} {w : ByteArray} (ps : cF h p L hd s) (hq : ∀ h', Gr h h' → Q (.panic (aDu (aK L s.k).pos w) h')) :
  aS Tryz.prog G X 116 [pV p, .string w] h Q := by
 refine Wk Tryz.func116 Tryz.ntmps116 (w:=QV (Ma (w:=MJ rB (w:=iU ps fun h1 g1 => ?_))))
 unfold aDu at hq
 generalize aK L s.k = t at *
 refine Mk (w:=Ma (w:=Mo (w:=Mn (w:=Mo (w:=QK ?_)))))
 apply WS.panic (v := .iface 60 (.agg #[.int .i64 t.pos, .iface 162 (.string w)])); (· rfl); (· rfl)
 exact hq _ g1

theorem eS {α : Type} {V : aA → α → Value → Prop} {s : St} {w : ByteArray} {h h0 : aA} {Q' : bR → Prop} (ps : cF h p L hd s) (fr : cJ p h0 h) (hq : bT V p L hd h0 Q (fY L s : R α)) (hQ : ∀ ch h', Q (.panic ch h') → Q' (.panic ch h')) :
  aS Tryz.prog G X 116 [pV p, .string w] h Q' :=
 aMz ps fun h' g => hQ _ _ (hq h' w (fr.trans (.of g)))

theorem aOb {s : St} {t : ByteArray} (ps : cF h p L hd s) (hq : bT VT p L hd h Q (cM L s t)) :
  aS Tryz.prog G X 87 [pV p, .string t] h Q := by
 unfold cM at hq
 refine Wk Tryz.func87 Tryz.ntmps87 (w:=QN (Mw (w:=QL (QU (QN (Ma (w:=Ma (w:=My (w:=MJ c8 (w:=fB (ts := [t]) (ps.gr ((Gr.alloc _ _).trans (Gr.alloc _ _))) cY (by simp) rfl (by simp) fun h1 g1 => ?_))))))))))
 have g0 : Gr h h1 := ((Gr.alloc _ _).trans (Gr.alloc _ _)).trans g1
 have ps1 := ps.gr g0
 have hn1 := g1.1
 simp only [aA.aC] at hn1
 have hres : h1.obj h.next = some (.cells false [.int .i64 0, .string .empty, .int .i64 0, .int .i64 0]) := g1.at (by simp; omega) (bX (by simp) cY)
 cases hb : cC L s [t]
 ·rw [hb] at hq
  simp only [Bool.false_eq_true, if_false] at hq
  refine Me (w:=QQ (QV (Ma (w:=Ma (w:=MJ kS (w:=?_))))))
  exact eS ps1 (.of g0) hq fun _ _ x => x
 ·rw [hb] at hq
  simp only [if_true] at hq
  refine Me (w:=QP (UA (QN (Ma (w:=MJ cG (w:=bS ps1 (ps.wf.is ps.at_ hb) fun h2 ps2 fr2 => ?_))))))
  have hp := ps.lt
  have hn2 := fr2.1
  have hres2 : h2.obj h.next = some (.cells false [.int .i64 0, .string .empty, .int .i64 0, .int .i64 0]) := by rw [fr2.2 _ (by omega) (by omega)]; exact hres
  refine Mv (w:=QM ?_)
  refine ⟨_, aM, ?_⟩
  refine hq _ _ (ps2.set hd s.next (by simp) (fun i hi => bF (by omega) rfl) ps2.at_ fun j hj => bF (by omega) hj) ⟨by simp; omega, fun i hi hip => ?_⟩ rfl
  rw [bF (by omega) rfl, fr2.2 i (by omega) hip]
  exact g0.2 i hi

theorem Wn {β : Type} {W : aA → β → Value → Prop} {p m : Nat} {s : St} {t : ByteArray} {h h1 : aA} {Q Q' : bR → Prop} {g : Tok → St → R β} (hq : bT W p L hd h Q ((cM L s t).then g)) (ps : cF h1 p L hd s := by exact aI) (fr : cJ p h h1 := by exact aT) (e : h1.next = m := by first | (simp only [UB, UC]; exact rfl) | (simp only [UB, UC]; done) | exact rfl) (hbad : ∀ ch h', Q (.panic ch h') → Q' (.panic ch h') := by exact fun _ _ x => x) (k : ∀ tk s' h2, cF h2 p L hd s' → cJ p h1 h2 → m ≤ h2.next → bT W p L hd h Q (g tk s') → Q' (.ret (.agg tk.cells.toArray) h2)) : aS Tryz.prog G X 87 [pV p, .string t] h1 Q' :=
 aOb ps (bT.use fr hq hbad fun tk s' h2 v ps2 f2 hv hq2 => by subst hv; exact k tk s' h2 ps2 f2 (e ▸ f2.1) hq2)
theorem kZ {s : St} (ps : cF h p L hd s) (hq : bT VT p L hd h Q (gB L s)) :
  aS Tryz.prog G X 112 [pV p] h Q := by
 unfold gB at hq
 refine Wk Tryz.func112 Tryz.ntmps112 (w:=QN (Mw (w:=QL (QU (QN (Ma (w:=MJ rB (w:=iU (ps.gr (Gr.alloc _ _)) fun h1 g1 => ?_))))))))
 have g0 : Gr h h1 := (Gr.alloc _ _).trans g1
 have ps1 := ps.gr g0
 have hn1 := g1.1
 simp only [aA.aC] at hn1
 have hres : h1.obj h.next = some (.cells false [.int .i64 0, .string .empty, .int .i64 0, .int .i64 0]) := g1.at (by simp) cY
 by_cases hb : (aK L s.k).kind = 1
 ·rw [if_pos hb] at hq
  refine Mk (w:=ME (w:=fun hh => by omega) (v:=fun hh => QP (UA (QN (Ma (w:=MJ cG (w:=bS ps1 (ps.wf.more ps.at_ (by omega)) fun h2 ps2 fr2 => ?_)))))))
  have hp := ps.lt
  have hn2 := fr2.1
  have hres2 : h2.obj h.next = some (.cells false [.int .i64 0, .string .empty, .int .i64 0, .int .i64 0]) := by rw [fr2.2 _ (by omega) (by omega)]; exact hres
  refine Mv (w:=QM ?_)
  refine ⟨_, aM, ?_⟩
  refine hq _ _ (ps2.set hd s.next (by simp) (fun i hi => bF (by omega) rfl) ps2.at_ fun j hj => bF (by omega) hj) ⟨by simp; omega, fun i hi hip => ?_⟩ rfl
  rw [bF (by omega) rfl, fr2.2 i (by omega) hip]
  exact g0.2 i hi
 ·rw [if_neg hb] at hq
  refine Mk (w:=ME (w:=fun hh => QQ (QV (Ma (w:=MJ kS (w:=?_))))) (v:=fun hh => by omega))
  exact eS ps1 (.of g0) hq fun _ _ x => x

theorem nT {s : St} {t : ByteArray} (ps : cF h p L hd s)
  (hq : ∀ h', cF h' p L hd (rG L s t) → cJ p h h' → Q (.ret (.bool (cC L s [t])) h')) :
  aS Tryz.prog G X 188 [pV p, .string t] h Q := by
 unfold rG at hq
 have hz := ps.wf.size
 have hk := ps.at_
 refine Wk Tryz.func188 Tryz.ntmps188 (w:=QN (Mb (w:=QO (Ma (w:=Ma (w:=My (w:=MJ c8 (w:=fB (ts := [t]) (ps.gr (Gr.alloc _ _)) cY (by simp) rfl (by simp) fun h1 g1 => ?_))))))))
 have g0 : Gr h h1 := (Gr.alloc _ _).trans g1
 have ps1 := ps.gr g0
 cases hb : cC L s [t]
 ·rw [hb] at hq
  simp only [Bool.false_eq_true, if_false] at hq
  refine Mb (w:=QL (QU (QN (Ma (w:=QP (UA (QN (Ma (w:=Mb (w:=QM ?_))))))))))
  refine ⟨_, aM, ?_⟩
  exact hq _ ps1 (.of g0)
 ·rw [hb] at hq
  simp only [if_true] at hq
  obtain ⟨j, hj, ho, hl⟩ := ps1.tok
  refine Mb (w:=QL (QU (QN (Ma (w:=QQ (QV (Ma (w:=Mi (w:=Mj (w:=Mt (w:=Mf (w:=Mi (w:=Mj (w:=Mv (w:=QO (Ma (w:=Mb (w:=QM ?_))))))))))))))))))
  refine ⟨_, aM, ?_⟩
  refine hq _ (ps1.set hd s.next (by simp) (fun i hi => bF (by omega) rfl) (ps.wf.is ps.at_ hb) fun j' hj' => ?_) ⟨by simpa using g0.1, fun i hi hip => ?_⟩
  ·rw [ho] at hj'
   cases hj'
   exact eG
  ·rw [bF (by omega) rfl]
   exact g0.2 i hi

theorem aAi {s : St} (ps : cF h p L hd s) (hq : ∀ h', Gr h h' → Q (.ret (.bool (cC L s gY)) h')) :
  aS Tryz.prog G X 134 [pV p] h Q := by
 refine Wk Tryz.func134 Tryz.ntmps134 (w:=QN (Mb (w:=QO (Ma (w:=My (w:=MJ c8 (w:=fB (ts := gY) (ps.gr (Gr.alloc _ _)) cY (by simp) rfl (by decide) fun h1 g1 => ?_)))))))
 refine Mb (w:=QM ?_)
 refine ⟨_, aM, ?_⟩
 exact hq _ ((Gr.alloc _ _).trans g1)

theorem lB (hq : ∀ h', Gr h h' → Q (.ret (.agg #[.int .i64 8, .string .empty, .int .i64 0, .int .i64 0, .string .empty, .int .i64 0, .slice none 0 0]) h')) :
  aS Tryz.prog G X 117 [] h Q := by
 refine Wk Tryz.func117 Tryz.ntmps117 (w:=QN (Mw (w:=QO (Mn (w:=Mv (w:=QM ?_))))))
 refine ⟨_, aM, ?_⟩
 exact hq _ (Gr.put (Gr.alloc _ _) (Nat.le_refl _))

theorem bG {kind : Int} {t : Tok} {text : ByteArray} {b : Option Addr} {n es : Nat} 
  (hq : ∀ h', Gr h h' → Q (.ret (.agg #[.int .i64 kind, .string text, .int .i64 0, .int .i64 t.pos, .string .empty, .int .i64 0, .slice b n es]) h')) :
  aS Tryz.prog G X 113 [.int .i64 kind, .agg t.cells.toArray, .string text, .slice b n es] h Q := by
 refine Wk Tryz.func113 Tryz.ntmps113 (w:=QN (Mx (w:=Mw (w:=QO (Ma (w:=Ma (w:=Mj (w:=Mt (w:=Ma (w:=Mn (w:=Mv (w:=QM ?_))))))))))))
 refine ⟨_, aM, ?_⟩
 exact hq _ fG


theorem cF.dC {h h' : aA} {s : St} (ps : cF h p L hd s) (hn : h.next ≤ h'.next) (hk : ∀ j, j ≤ p → h'.obj j = h.obj j) : cF h' p L hd s := by
 obtain ⟨j, hj, h1, h2⟩ := ps.tok
 exact ⟨Nat.lt_of_lt_of_le ps.lt hn, ⟨j, hj, by rw [hk p (Nat.le_refl _)]; exact h1, by rw [hk j (Nat.le_of_lt hj)]; exact h2⟩, ps.at_, ps.wf⟩
theorem cJ.dC {h H h' : aA} (fr : cJ p h H) (hn : H.next ≤ h'.next) (hk : ∀ j, j < h.next → h'.obj j = H.obj j) : cJ p h h' := ⟨Nat.le_trans fr.1 hn, fun j hj hp => (hk j hj).trans (fr.2 j hj hp)⟩
theorem KV.ne {o : Nat} {b : Option Addr} {n es : Nat} {kids : List Nd} (hk : KV h (fun j => o < j) b n es kids) : ∀ j, j ≤ o → ∀ off, b ≠ some ⟨j, off, none⟩ := by
 intro j hj off e
 rcases hk with ⟨rfl, _⟩ | ⟨i, cells, rfl, h1, _⟩
 ·cases e
 ·cases e; omega

theorem KV.ge {S : Nat → Prop} {b : Option Addr} {n es : Nat} {kids : List Nd} (hk : KV h S b n es kids) : ∀ j, h.next ≤ j → ∀ off, b ≠ some ⟨j, off, none⟩ := by
 intro j hj off e
 rcases hk with ⟨rfl, _⟩ | ⟨i, cells, rfl, _, h1, _⟩
 ·cases e
 ·cases e; omega

def CN (f : FuncId) (spec : PF Nd) : Prop := ∀ {p : Nat} {L : List Tok} {hd : Bool} {s : St} {h : aA} {Q : bR → Prop}, cF h p L hd s → bT (VN (fun j => h.next ≤ j)) p L hd h Q (spec L hd s) → aS Tryz.prog G X f [pV p] h Q
def CK (f : FuncId) (spec : PF (List Nd)) : Prop := ∀ {p : Nat} {L : List Tok} {hd : Bool} {s : St} {h : aA} {Q : bR → Prop}, cF h p L hd s → bT (VK (fun j => h.next ≤ j)) p L hd h Q (spec L hd s) → aS Tryz.prog G X f [pV p] h Q

structure qP (r : Rec) : Prop where
 cD : CN 114 r.cD
 function : CK 115 r.function
 block : CN 136 r.block
 stmts : CK 159 r.stmts
 stmt : CN 189 r.stmt
 nested : CN 212 r.nested
 branch : CN 211 r.branch
 expr : CN 210 r.expr
 unary : CN 243 r.unary
 cH : CN 232 r.cH
 simple : CN 226 r.simple
 binary : ∀ {least : Int}, 0 ≤ least → least ≤ 6 → ∀ {p : Nat} {L : List Tok} {hd : Bool} {s : St} {h : aA} {Q : bR → Prop}, cF h p L hd s → bT (VN (fun j => h.next ≤ j)) p L hd h Q (r.binary least L hd s) → aS Tryz.prog G X 227 [pV p, .int .i64 least] h Q

theorem aJm {r : Rec} (c : qP r) : CN 136 (pF r) := by
 intro p L hd s h Q ps hq0
 have hp := ps.lt
 unfold pF at hq0
 refine Wk Tryz.func136 Tryz.ntmps136 (w:=QN (Mw (w:=QO (Ma (w:=MJ eI (w:=Wn (hd := hd) hq0 (k:=fun tk1 s1 h1 ps1 fr1 hn1 hq1 => ?_)))))))
 refine Mw (w:=Mv (w:=QL (QU (Gd [⟨0, .read, 0⟩, ⟨1, .pure, 0⟩, ⟨4, .alloc, 0⟩, ⟨2, .aF, 2⟩, ⟨3, .aF, 7⟩, ⟨5, .aF, 31⟩] (w:=Ru (w:=Da (w:=?_)))))));refine WD.alloc (hw := Qw ?_);refine WD.aF hX (hw := ?_)
 refine QJ aLt ?_
 refine c.stmts aI (Nuk hq1 (k:=fun t2 s2 h2 b2 n2 es2 ps2 fr2 kv2 hn2 hq2 => ?_))
 refine WD.aF hX (hw := ?_)
 refine QJ bM ?_
 refine bG fun h3 g3 => ?_
 have hn3 := nx g3.1
 refine WD.aF hX (hw := Qv ?_);refine WD.nil (hq:=QN (Ma (w:=MJ eI (w:=Wn (hd := hd) hq2 (k:=fun tk4 s4 h4 ps4 fr4 hn4 hq4 => ?_)))))
 refine QO (Mu (w:=Mv (w:=QM ?_)))
 refine ⟨_, aM, ?_⟩
 exact hq4 _ _ aI aT ⟨_, _, _, rfl, NV.aZ (kv2.kp) _ _ _ _ _ _⟩

theorem WF.name (w : WF L) {s : St} (hk : s.k < L.length) (h : (aK L s.k).kind = 1) : s.k + 1 < L.length := w.more hk (by omega)


theorem aQe {r : Rec} {n : Nat} (hn : n ≤ 1000000) (c : qP r) : CN 114 (aCc n r) := by
 intro p L hd s h Q ps hq0
 have hp := ps.lt
 unfold aCc at hq0
 refine Wk Tryz.func114 Tryz.ntmps114 (w:=QN (Mw (w:=QL (QU (QN (Ma (w:=MJ aLq (w:=aAi (L := L) (hd := hd) (s := s) aI fun h1 g1 => ?_))))))))
 have hn1 := nx g1.1
 cases hb : cC L s gY
 ·rw [hb, if_neg Bool.false_ne_true] at hq0
  refine Me (w:=QQ (QV (Ma (w:=MJ kS (w:=?_)))))
  exact eS (hd := hd) aI aT hq0 (fun _ _ x => x)
 ·rw [hb, if_pos rfl] at hq0
  refine Me (w:=QP (UA (QN (Ma (w:=MJ cG (w:=bS (L := L) (hd := hd) (s := s) aI (ps.wf.is ps.at_ hb) fun h2 ps2 fr2 => ?_))))))
  have hn2 := nx fr2.1
  simp only at hq0
  generalize aK L s.k = tk at *
  refine Mw (w:=Mv (w:=QO (Mj (w:=Mt (w:=QL (Bk (QN (MB (w:=fun hh => Mb (w:=QQ (QN (Mu (w:=QK ?_))))) (v:=fun hh => Mb (w:=QP (QN (MB (w:=fun hh => Mb (w:=QQ (QN (Mu (w:=QK ?_))))) (v:=fun hh => Mb (w:=QP (QN (MB (w:=fun hh => Mb (w:=QQ (QN (Mu (w:=QK ?_))))) (v:=fun hh => Mb (w:=QP (QN (MB (w:=fun hh => Mb (w:=QQ (QU (Gd [⟨0, .read, 0⟩, ⟨1, .pure, 0⟩, ⟨2, .aF, 2⟩, ⟨3, .pure, 6⟩, ⟨4, .aF, 15⟩, ⟨5, .aF, 31⟩] (w:=Ru (w:=Da (w:=?_))))))) (v:=?_)))))))))))))))))))));rotate_left 3;refine WD.aF hX (hw := ?_);rotate_left;intro hh;refine Mb (w:=QP (QN (MB (w:=fun hh => Mb (w:=QQ (QN (Ma (w:=QK ?_))))) (v:=?_))));rotate_left;intro hh;refine Mb (w:=QP (QN (MB (w:=fun hh => Mb (w:=QQ (QU (Gd [⟨0, .read, 0⟩, ⟨1, .pure, 0⟩, ⟨2, .aF, 2⟩, ⟨3, .alloc, 6⟩, ⟨4, .aF, 15⟩, ⟨5, .aF, 31⟩] (w:=Ru (w:=Da (w:=?_))))))) (v:=?_))));refine WD.aF hX (hw := ?_);rotate_left;intro hh;refine Mb (w:=QP (QN (Ma (w:=QK ?_))));rotate_left
  all_goals (repeat (first | rw [if_pos (by assumption)] at hq0 | rw [if_neg (by assumption)] at hq0))
  ·refine QJ bM ?_
   refine bG fun h3 g3 => ?_
   have hn3 := nx g3.1
   refine Mv (w:=QM ?_)
   refine ⟨_, aM, ?_⟩
   exact hq0 _ _ aI aT ⟨_, _, _, rfl, NV.aZ (KV.nil _ _) _ _ _ _ _ _⟩
  ·refine QJ bM ?_
   refine bG fun h3 g3 => ?_
   have hn3 := nx g3.1
   refine Mv (w:=QM ?_)
   refine ⟨_, aM, ?_⟩
   exact hq0 _ _ aI aT ⟨_, _, _, rfl, NV.aZ (KV.nil _ _) _ _ _ _ _ _⟩
  ·refine QJ bM ?_
   refine bG fun h3 g3 => ?_
   have hn3 := nx g3.1
   refine Mv (w:=QM ?_)
   refine ⟨_, aM, ?_⟩
   exact hq0 _ _ aI aT ⟨_, _, _, rfl, NV.aZ (KV.nil _ _) _ _ _ _ _ _⟩
  ·refine QJ oY ?_
   refine kZ (hd := hd) aI (bT.use aT hq0 (fun _ _ x => x) fun tk3 s3 h3 v3 ps3 fr3 hv3 hq3 => ?_)
   subst hv3
   have hn3 := nx fr3.1
   refine Dk (w:=?_);refine WD.aF hX (hw := ?_)
   refine QJ bM ?_
   refine bG fun h4 g4 => ?_
   have hn4 := nx g4.1
   refine WD.aF hX (hw := Qv ?_);refine WD.nil (hq:=WC.ret ?_)
   refine ⟨_, aM, ?_⟩
   exact hq3 _ _ aI aT ⟨_, _, _, rfl, NV.aZ (KV.nil _ _) _ _ _ _ _ _⟩
  ·refine QJ eI ?_
   refine Wn (hd := hd) hq0 (k:=fun tk3 s3 h3 ps3 fr3 hn3 hq3 => ?_)
   refine QL (QU (Gd [⟨0, .read, 0⟩, ⟨1, .pure, 0⟩, ⟨2, .aF, 2⟩, ⟨3, .alloc, 6⟩, ⟨4, .aF, 15⟩, ⟨5, .aF, 31⟩] (w:=Ru (w:=Da (w:=?_)))));refine WD.aF hX (hw := ?_)
   refine QJ nP ?_
   refine c.cD aI (Nu hq3 (k:=fun t4 s4 h4 b4 n4 es4 ps4 fr4 kv4 hn4 hq4 => ?_))
   refine WD.alloc (hw := Qz ?_);refine WD.aF hX (hw := ?_)
   refine QJ bM ?_
   refine bG fun h5 g5 => ?_
   have hn5 := nx g5.1
   refine WD.aF hX (hw := Qv ?_);refine WD.nil (hq:=WC.ret ?_)
   refine ⟨_, aM, ?_⟩
   exact hq4 _ _ aI aT ⟨_, _, _, rfl, NV.aZ (KV.one (S := fun j => h.next ≤ j ∧ j < h4.next) aB aB aD (kv4.kp) (fun j hS hj => ⟨hS.1, by have := hS.2; exact aB⟩)) _ _ _ _ _ _⟩
  ·refine QJ nP ?_
   refine c.cD aI (Nu hq0 (k:=fun t4 s4 h4 b4 n4 es4 ps4 fr4 kv4 hn4 hq4 => ?_))
   refine WD.alloc (hw := Qz ?_);refine WD.aF hX (hw := ?_)
   refine QJ bM ?_
   refine bG fun h5 g5 => ?_
   have hn5 := nx g5.1
   refine WD.aF hX (hw := Qv ?_);refine WD.nil (hq:=WC.ret ?_)
   refine ⟨_, aM, ?_⟩
   exact hq4 _ _ aI aT ⟨_, _, _, rfl, NV.aZ (KV.one (S := fun j => h.next ≤ j ∧ j < h4.next) aB aB aD (kv4.kp) (fun j hS hj => ⟨hS.1, by have := hS.2; exact aB⟩)) _ _ _ _ _ _⟩
  ·refine QJ eI ?_
   refine Wn (hd := hd) hq0 (k:=fun tk3 s3 h3 ps3 fr3 hn3 hq3 => ?_)
   refine QO (Mu (w:=MJ bM (w:=bG fun h4 g4 => ?_)))
   have hn4 := nx g4.1
   refine Mw (w:=Mv (w:=QL (QU (Bk ?_))))
   refine WC.cB hX (α := Nat × List Nd × St) (m := fun a => a.1) (Inv := fun a e h' => e 0 = some (pV p) ∧ e 2 = some (.pointer (some ⟨h.next, 0, none⟩)) ∧ e 4 = some (.pointer (some ⟨h4.next, 0, none⟩)) ∧ cF h' p L hd a.2.2 ∧ cJ p h h' ∧
    h'.obj h.next = some (Z0) ∧ h4.next < h'.next ∧ a.1 + a.2.1.length ≤ n ∧ (∃ b n es, h'.obj h4.next = some (.cells false (aG (nd 15 tk ⟨#[]⟩ a.2.1) b n es)) ∧ KV h' (fun j => h4.next < j) b n es a.2.1) ∧
    bT (VN fun j => h.next ≤ j) p L hd h Q ((dI L [⟨#[41]⟩] (fun kids s => (sW L s kids.isEmpty).then fun _ s => (r.cD L hd s).then fun x s => .ok (kids ++ [x]) s) a.1 a.2.1 a.2.2).then fun kids s =>
     if cC L s.next gY then (r.cD L hd s.next).then fun x s => .ok (nd 15 tk ⟨#[]⟩ (kids ++ [x])) s else .ok (nd 15 tk ⟨#[]⟩ (kids ++ [c5])) s.next))
    (n, [], s3) ⟨rfl, rfl, rfl, aI, aT, aD, aB, by simp, ⟨none, 0, 0, aD, KV.nil _ _⟩, hq3⟩ ?_
   rintro ⟨m, kids, s5⟩ env h5 ih ⟨e0, e2, e4, ps5, fr5, ho5, hn5, hm5, ⟨b5, n5, es5, hk5, kv5⟩, hq5⟩
   simp only at ps5 hm5 hk5 kv5 hq5
   have hnn5 := fr5.1
   obtain ⟨m, rfl⟩ : ∃ m', m = m' + 1 := by
    cases m with
    | zero => exact hq5.elim
    | succ m => exact ⟨m, rfl⟩
   unfold dI at hq5
   have hl5 := kv5.len
   refine QU (QN (Ma (w:=My (w:=MJ c8 (w:=fB (L := L) (hd := hd) (s := s5) (ts := [⟨#[41]⟩]) aI aD aB rfl (by first | decide | simp) fun h6 g6 => ?_)))))
   have hn6 := nx g6.1
   cases hb6 : cC L s5 [⟨#[41]⟩]
   ·rw [hb6, if_neg Bool.false_ne_true] at hq5
    simp only [R.then_assoc] at hq5
    unfold sW at hq5
    refine Me (w:=QQ (UA (Bk (QU (QN (Mj (w:=Mt (w:=Ms (w:=MH (w:=fun hh => QQ (QV (Ma (w:=QK ?_)))) (v:=fun hh => QP (UA (Gd [⟨0, .pure, 0⟩, ⟨1, .read, 1⟩, ⟨2, .pure, 0⟩, ⟨3, .aF, 4⟩, ⟨4, .alloc, 12⟩, ⟨5, .aF, 31⟩, ⟨6, .pure, 63⟩, ⟨7, .aF, 127⟩] (w:=Dj (w:=Rt (w:=Da (w:=?_))))))))))))))));rotate_left;refine WD.aF hX (hw := ?_);rotate_left
    ·have he : kids.isEmpty = false := by
      cases kids with
      | nil => simp at hl5; omega
      | cons a l => rfl
     rw [he, if_neg Bool.false_ne_true, R.then_assoc] at hq5
     refine QJ eI ?_
     refine Wn (hd := hd) hq5 (k:=fun tk7 s7 h7 ps7 fr7 hn7 hq7 => ?_)
     (try simp only [R.then_ok] at hq7)
     refine QL (Gd [⟨0, .pure, 0⟩, ⟨1, .read, 1⟩, ⟨2, .pure, 0⟩, ⟨3, .aF, 4⟩, ⟨4, .alloc, 12⟩, ⟨5, .aF, 31⟩, ⟨6, .pure, 63⟩, ⟨7, .aF, 127⟩] (w:=Dj (w:=Rt (w:=Da (w:=?_)))));refine WD.aF hX (hw := ?_)
     refine QJ nP ?_
     refine c.cD aI (Nu hq7 (k:=fun t8 s8 h8 b8 n8 es8 ps8 fr8 kv8 hn8 hq8 => ?_))
     (try simp only [R.then_ok] at hq8)
     refine WD.alloc (hw := Qz ?_);refine WD.aF hX (hw := ?_)
     have kvH := kv5.mono (S' := fun j => h4.next < j) (h' := (h8).alloc (.cells false (aG t8 b8 n8 es8))) aB (fun j hS hj => ⟨aB, bB⟩)
     have hbne := kvH.ne
     obtain ⟨old, hsa, hol, hold⟩ := kvH.sliceAt
     have hol2 : kids.length ≤ 1000000 := by omega
     apply WS.append
     (· rfl); (· rfl); (· exact aL); (· exact aL); (· rfl); (· rfl); (· intro k hk; cases hk); (· exact cE rfl); (· decide); (· exact aD); (· exact iC); (· rfl); (· unfold room; omega); (· rfl); (· exact hsa)
     intro h9 hn9 ho9 hf9
     simp only [UB, UC] at hn9 ho9 hf9
     have hk9 : ∀ j, j ≤ h4.next → h9.obj j = ((h8).alloc (.cells false (aG t8 b8 n8 es8))).obj j := fun j hj => hf9 j (by omega) (hbne j hj)
     have fr9 : cJ p h h9 := cJ.dC (H := (h8).alloc (.cells false (aG t8 b8 n8 es8))) aT aB fun j hj => hk9 j (by omega)
     have kv9 : KV h9 (fun j => h4.next < j) (some ⟨(h8).next + 1, 0, none⟩) (n5 + 1) 7 (kids ++ [t8]) := KV.snoc (h := (h8).alloc (.cells false (aG t8 b8 n8 es8))) (S2 := fun j => h5.next ≤ j ∧ j < (h8).next) hol (by omega) hold (kv8.kp) aB ho9 hf9 aB (fun x hx _ => by omega) (fun x hx hlt => ⟨by have := hx.1; omega, kv5.ge x hx.1⟩)
     have ps9 : cF h9 p L hd s8 := cF.dC (h := h8.alloc (.cells false (aG t8 b8 n8 es8))) aI aB fun j hj => hk9 j (by omega)
     have ho9a : h9.obj h.next = some (Z0) := (hk9 _ (by omega)).trans aD
     have ho9b : h9.obj h4.next = some (.cells false (aG (nd 15 tk ⟨#[]⟩ kids) b5 n5 es5)) := (hk9 _ (by omega)).trans aD
     refine Dj (w:=?_);refine WD.aF hX (hw := Qv ?_);refine WD.nil (hq:=?_)
     exact ih (m, kids ++ [t8], s8) _ _ (by simp) ⟨e0, e2, e4, aI, aT, aD, aB, by simp; omega, ⟨_, _, _, aD, kv9.kp⟩, hq8⟩
    ·have he : kids.isEmpty = true := by
      cases kids with
      | nil => rfl
      | cons a l => simp at hl5; omega
     rw [he, if_pos rfl, R.then_ok] at hq5
     skip
     refine QJ nP ?_
     refine c.cD aI (Nu hq5 (k:=fun t8 s8 h8 b8 n8 es8 ps8 fr8 kv8 hn8 hq8 => ?_))
     (try simp only [R.then_ok] at hq8)
     refine WD.alloc (hw := Qz ?_);refine WD.aF hX (hw := ?_)
     have kvH := kv5.mono (S' := fun j => h4.next < j) (h' := (h8).alloc (.cells false (aG t8 b8 n8 es8))) aB (fun j hS hj => ⟨aB, bB⟩)
     have hbne := kvH.ne
     obtain ⟨old, hsa, hol, hold⟩ := kvH.sliceAt
     have hol2 : kids.length ≤ 1000000 := by omega
     apply WS.append
     (· rfl); (· rfl); (· exact aL); (· exact aL); (· rfl); (· rfl); (· intro k hk; cases hk); (· exact cE rfl); (· decide); (· exact aD); (· exact iC); (· rfl); (· unfold room; omega); (· rfl); (· exact hsa)
     intro h9 hn9 ho9 hf9
     simp only [UB, UC] at hn9 ho9 hf9
     have hk9 : ∀ j, j ≤ h4.next → h9.obj j = ((h8).alloc (.cells false (aG t8 b8 n8 es8))).obj j := fun j hj => hf9 j (by omega) (hbne j hj)
     have fr9 : cJ p h h9 := cJ.dC (H := (h8).alloc (.cells false (aG t8 b8 n8 es8))) aT aB fun j hj => hk9 j (by omega)
     have kv9 : KV h9 (fun j => h4.next < j) (some ⟨(h8).next + 1, 0, none⟩) (n5 + 1) 7 (kids ++ [t8]) := KV.snoc (h := (h8).alloc (.cells false (aG t8 b8 n8 es8))) (S2 := fun j => h5.next ≤ j ∧ j < (h8).next) hol (by omega) hold (kv8.kp) aB ho9 hf9 aB (fun x hx _ => by omega) (fun x hx hlt => ⟨by have := hx.1; omega, kv5.ge x hx.1⟩)
     have ps9 : cF h9 p L hd s8 := cF.dC (h := h8.alloc (.cells false (aG t8 b8 n8 es8))) aI aB fun j hj => hk9 j (by omega)
     have ho9a : h9.obj h.next = some (Z0) := (hk9 _ (by omega)).trans aD
     have ho9b : h9.obj h4.next = some (.cells false (aG (nd 15 tk ⟨#[]⟩ kids) b5 n5 es5)) := (hk9 _ (by omega)).trans aD
     refine Dj (w:=?_);refine WD.aF hX (hw := Qv ?_);refine WD.nil (hq:=?_)
     exact ih (m, kids ++ [t8], s8) _ _ (by simp) ⟨e0, e2, e4, aI, aT, aD, aB, by simp; omega, ⟨_, _, _, aD, kv9.kp⟩, hq8⟩
   ·rw [hb6, if_pos rfl, R.then_ok] at hq5
    refine Me (w:=QP (WC.exit (aH (QN (Ma (w:=MJ cG (w:=bS (L := L) (hd := hd) (s := s5) aI (ps5.wf.is ps5.at_ hb6) fun h7 ps7 fr7 => ?_)))))))
    have hn7 := nx fr7.1
    refine QO (MJ oZ (w:=lB fun h8 g8 => ?_))
    have hn8 := nx g8.1
    refine Mw (w:=Mv (w:=QL (QU (QN (Ma (w:=MJ aLq (w:=aAi (L := L) (hd := hd) (s := s5.next) aI fun h10 g10 => ?_)))))))
    have hn10 := nx g10.1
    cases hb10 : cC L s5.next gY
    ·rw [hb10, if_neg Bool.false_ne_true] at hq5
     refine QP (UA (QN (Mj (w:=Mt (w:=Mu (w:=Mz (w:=QK ?_)))))))
     have kvH := kv5.mono (S' := fun j => h4.next < j) (h' := (h10).alloc (.cells false (aG c5 none 0 0))) aB (fun j hS hj => ⟨aB, bB⟩)
     have hbne := kvH.ne
     obtain ⟨old, hsa, hol, hold⟩ := kvH.sliceAt
     have hol2 : kids.length ≤ 1000000 := by omega
     apply WS.append
     (· rfl); (· rfl); (· exact aL); (· exact aL); (· rfl); (· rfl); (· intro k hk; cases hk); (· exact cE rfl); (· decide); (· exact aD); (· exact iC); (· rfl); (· unfold room; omega); (· rfl); (· exact hsa)
     intro h9 hn9 ho9 hf9
     simp only [UB, UC] at hn9 ho9 hf9
     have hk9 : ∀ j, j ≤ h4.next → h9.obj j = ((h10).alloc (.cells false (aG c5 none 0 0))).obj j := fun j hj => hf9 j (by omega) (hbne j hj)
     have fr9 : cJ p h h9 := cJ.dC (H := (h10).alloc (.cells false (aG c5 none 0 0))) aT aB fun j hj => hk9 j (by omega)
     have kv9 : KV h9 (fun j => h4.next < j) (some ⟨(h10).next + 1, 0, none⟩) (n5 + 1) 7 (kids ++ [c5]) := KV.snoc (h := (h10).alloc (.cells false (aG c5 none 0 0))) (S2 := fun j => h5.next ≤ j ∧ j < (h10).next) hol (by omega) hold (NV.leaf _ _ _ _ _ _) aB ho9 hf9 aB (fun x hx _ => by omega) (fun x hx hlt => ⟨by have := hx.1; omega, kv5.ge x hx.1⟩)
     have ps9 : cF h9 p L hd s5.next := cF.dC (h := h10.alloc (.cells false (aG c5 none 0 0))) aI aB fun j hj => hk9 j (by omega)
     have ho9a : h9.obj h.next = some (Z0) := (hk9 _ (by omega)).trans aD
     have ho9b : h9.obj h4.next = some (.cells false (aG (nd 15 tk ⟨#[]⟩ kids) b5 n5 es5)) := (hk9 _ (by omega)).trans aD
     refine Mj (w:=Mv (w:=QO (Mu (w:=Mv (w:=QM ?_)))))
     refine ⟨_, aM, ?_⟩
     exact hq5 _ _ aI aT ⟨_, _, _, rfl, NV.aZ (kv9.kp) _ _ _ _ _ _⟩
    ·rw [hb10, if_pos rfl] at hq5
     refine QQ (QV (Ma (w:=MJ nP (w:=c.cD aI (Nu hq5 (k:=fun t11 s11 h11 b11 n11 es11 ps11 fr11 kv11 hn11 hq11 => ?_))))))
     refine Mv (w:=QO (Mj (w:=Mt (w:=Mu (w:=Mz (w:=QK ?_))))))
     have kvH := kv5.mono (S' := fun j => h4.next < j) (h' := (h11.put h8.next (some (.cells false (aG t11 b11 n11 es11)))).alloc (.cells false (aG t11 b11 n11 es11))) aB (fun j hS hj => ⟨aB, bB⟩)
     have hbne := kvH.ne
     obtain ⟨old, hsa, hol, hold⟩ := kvH.sliceAt
     have hol2 : kids.length ≤ 1000000 := by omega
     apply WS.append
     (· rfl); (· rfl); (· exact aL); (· exact aL); (· rfl); (· rfl); (· intro k hk; cases hk); (· exact cE rfl); (· decide); (· exact aD); (· exact iC); (· rfl); (· unfold room; omega); (· rfl); (· exact hsa)
     intro h9 hn9 ho9 hf9
     simp only [UB, UC] at hn9 ho9 hf9
     have hk9 : ∀ j, j ≤ h4.next → h9.obj j = ((h11.put h8.next (some (.cells false (aG t11 b11 n11 es11)))).alloc (.cells false (aG t11 b11 n11 es11))).obj j := fun j hj => hf9 j (by omega) (hbne j hj)
     have fr9 : cJ p h h9 := cJ.dC (H := (h11.put h8.next (some (.cells false (aG t11 b11 n11 es11)))).alloc (.cells false (aG t11 b11 n11 es11))) aT aB fun j hj => hk9 j (by omega)
     have kv9 : KV h9 (fun j => h4.next < j) (some ⟨(h11.put h8.next (some (.cells false (aG t11 b11 n11 es11)))).next + 1, 0, none⟩) (n5 + 1) 7 (kids ++ [t11]) := KV.snoc (h := (h11.put h8.next (some (.cells false (aG t11 b11 n11 es11)))).alloc (.cells false (aG t11 b11 n11 es11))) (S2 := fun j => h5.next ≤ j ∧ j < (h11.put h8.next (some (.cells false (aG t11 b11 n11 es11)))).next) hol (by omega) hold (kv11.kp) aB ho9 hf9 aB (fun x hx _ => by omega) (fun x hx hlt => ⟨by have := hx.1; omega, kv5.ge x hx.1⟩)
     have ps9 : cF h9 p L hd s11 := cF.dC (h := (h11.put h8.next (some (.cells false (aG t11 b11 n11 es11)))).alloc (.cells false (aG t11 b11 n11 es11))) aI aB fun j hj => hk9 j (by omega)
     have ho9a : h9.obj h.next = some (Z0) := (hk9 _ (by omega)).trans aD
     have ho9b : h9.obj h4.next = some (.cells false (aG (nd 15 tk ⟨#[]⟩ kids) b5 n5 es5)) := (hk9 _ (by omega)).trans aD
     refine Mj (w:=Mv (w:=QO (Mu (w:=Mv (w:=QM ?_)))))
     refine ⟨_, aM, ?_⟩
     exact hq11 _ _ aI aT ⟨_, _, _, rfl, NV.aZ (kv9.kp) _ _ _ _ _ _⟩

end Go.Proofs.ZL
end
