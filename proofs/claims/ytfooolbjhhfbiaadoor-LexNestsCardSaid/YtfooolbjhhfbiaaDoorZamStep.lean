/-
  The abstract machine, part 6: one operation.
-/
import Derived.Test.YtfooolbjhhfbiaaDoorZamOps
namespace Go.Am
open Go.RowKit (Below)

inductive ANext where
  | val (v : Value) (h : Heap)
  | skip (h : Heap)
  | enter (f : FuncId) (args : List Value)
  | panic (v : Value)

abbrev Env := Nat → Option Value

def evalA (G : Nat) (env : Env) : Operand → Option Value
  | .tmp t => env t
  | .const v => if closedV 3 v then some v else none
  | .global g => if g < G then some (.pointer (some ⟨g, 0, none⟩)) else none
  | .func f => some (.func (.func f) #[] #[])

def evalAll (G : Nat) (env : Env) : List Operand → Option (List Value)
  | [] => some []
  | x :: xs => match evalA G env x, evalAll G env xs with
    | some v, some vs => some (v :: vs)
    | _, _ => none

def evalParts (G : Nat) (env : Env) : List (Nat × Operand) → Option (List (Nat × Value))
  | [] => some []
  | (i, x) :: xs => match evalA G env x, evalParts G env xs with
    | some v, some vs => some ((i, v) :: vs)
    | _, _ => none

def placesA (P : Program) : List Field → Option (List (Nat × Nat))
  | [] => some []
  | f :: fs => match sizeT P f.type, placesA P fs with
    | some n, some l => some ((f.offset, n) :: l)
    | _, _ => none

/-- The cells of a new value, its parts filled in. -/
def fillA (place : Nat → Option (Nat × Nat)) (cells : List Value) : List (Nat × Value) → Option (List Value)
  | [] => some cells
  | (i, v) :: rest =>
    match place i with
    | none => none
    | some (off, size) => if v.cells.size ≠ size || off + v.cells.size > cells.length then none else fillA place (setMany cells off v.cells.toList) rest

def buildA (P : Program) (t : TypeId) (parts : List (Nat × Value)) : Option Value :=
  match zeroT P t, P.underlying t with
  | some z, some (.struct fields) => match placesA P fields.toList with
    | some pl => (fillA (fun i => pl[i]?) z.cells.toList parts).map fun cs => .agg cs.toArray
    | none => none
  | some z, some (.array _ e) => match sizeT P e with
    | some n => (fillA (fun i => some (i * n, n)) z.cells.toList parts).map fun cs => .agg cs.toArray
    | none => none
  | _, _ => none

/-- The cells of n zero elements. -/
def zerosA (z : Value) : Nat → List Value
  | 0 => []
  | n + 1 => z.cells.toList ++ zerosA z n

def buildSliceA (P : Program) (t : TypeId) (len : Nat) (parts : List (Nat × Value)) (h : Heap) : Option (Value × Heap) :=
  match P.underlying t with
  | some (.slice e) => match sizeT P e, zeroT P e with
    | some n, some z =>
      if z.cells.size = n && 0 < n && len * n ≤ 16777216 then
        (fillA (fun i => some (i * n, n)) (zerosA z len) parts).map fun cs => (.slice (some ⟨h.next, 0, none⟩) len n, h.alloc (.cells false cs))
      else none
    | _, _ => none
  | _ => none

def makeSliceA (P : Program) (t : TypeId) (len cap : Value) (h : Heap) : Option (Value × Heap) :=
  match P.underlying t, len, cap with
  | some (.slice e), .int _ l, .int _ c => match elemFits P e, zeroT P e with
    | some (n, bytes), some z =>
      if 0 ≤ l && l ≤ c && c ≤ 1152921504606846976 && bytes * c ≤ 281474976710656 && z.cells.size = n then some (.slice (some ⟨h.next, 0, none⟩) l.toNat n, h.alloc (.cells false (zerosA z c.toNat))) else none
    | _, _ => none
  | _, _, _ => none

def unA (op : UnOp) (x : Value) : Option Value :=
  match op, x with
  | .neg, .int k n => some (.int k (k.wrap (0 - n)))
  | .not, .bool b => some (.bool !b)
  | .xor, .int k n => some (.int k (k.wrap (BitVec.ofInt k.bits (if k.signed then -1 else k.max) ^^^ BitVec.ofInt k.bits n).toNat))
  | _, _ => none

/-- The bytes of some cells, as numbers. -/
def bytesOfCells : List Value → Option (List Int)
  | [] => some []
  | .int .u8 n :: r => match bytesOfCells r with
    | some l => some (n :: l)
    | none => none
  | _ :: _ => none

def convertA (P : Program) (src dst : TypeId) (x : Value) (h : Heap) : Option (Value × Heap) :=
  match P.underlying src, P.underlying dst, x with
  | some _, some (.int k), .int _ n => some (.int k (k.wrap n), h)
  | some _, some .string, .int _ n => some (.string (Utf8.encode n), h)
  | some _, some .string, .string s => some (.string s, h)
  | some _, some (.slice e), .string s => match P.underlying e with
    | some (.int .u8) => some (.slice (some ⟨h.next, 0, none⟩) s.size 1, h.alloc (.cells false (s.data.toList.map fun b => Value.int .u8 b.toNat)))
    | _ => none
  | some (.slice e), some .string, .slice a len es => match P.underlying e with
    | some (.int .u8) => match a with
      | none => some (.string .empty, h)
      | some ⟨i, off, none⟩ => if len = 0 then some (.string .empty, h) else if es = 1 then match h.cells i off len with
        | some vs => (bytesOfCells vs).map fun ns => (.string ⟨(ns.map fun n => UInt8.ofNat n.toNat).toArray⟩, h)
        | none => none
        else none
      | _ => none
    | _ => none
  | _, _, _ => none

/-- A bound of a slice expression: a whole number from 0 to a limit. -/
def boundA (limit : Nat) : Option Value → Nat → Option Nat
  | none, d => some d
  | some (.int _ i), _ => if 0 ≤ i && i ≤ limit then some i.toNat else none
  | some _, _ => none

def sliceA (P : Program) (t : TypeId) (x : Value) (lo hi : Option Value) : Option Value :=
  match P.underlying t, x with
  | some .string, .string s => match boundA s.size hi s.size with
    | some hh => match boundA hh lo 0 with
      | some l => some (.string (s.extract l hh))
      | none => none
    | none => none
  | some (.slice e), .slice a len es => match boundA len hi len with
    | some hh => match boundA hh lo 0 with
      | some l => match a with
        | none => if len = 0 && (sizeT P e).isSome then some (.slice none 0 0) else none
        | some ⟨i, off, none⟩ => if sizeT P e = some es then some (.slice (some ⟨i, off + l * es, none⟩) (hh - l) es) else none
        | _ => none
      | none => none
    | none => none
  | _, _ => none

def indexAddrA (P : Program) (t : TypeId) (x ix : Value) : Option Value :=
  match P.underlying t, x, ix with
  | some (.array len e), .pointer (some ⟨i, off, none⟩), .int _ k => match sizeT P e with
    | some n => if 0 ≤ k && k < len then some (.pointer (some ⟨i, off + k.toNat * n, none⟩)) else none
    | none => none
  | some (.slice e), .slice (some ⟨i, off, none⟩) len es, .int _ k =>
    if sizeT P e = some es && 0 ≤ k && k < len then some (.pointer (some ⟨i, off + k.toNat * es, none⟩)) else none
  | _, _, _ => none

def indexA (P : Program) (t : TypeId) (x ix : Value) : Option Value :=
  match P.underlying t, x, ix with
  | some (.array len e), .agg cs, .int _ k => match sizeT P e with
    | some n => if 0 ≤ k && k < len then partA P e cs.toList (k.toNat * n) else none
    | none => none
  | some .string, .string s, .int _ k => if 0 ≤ k then (s[k.toNat]?).map fun b => .int .u8 b.toNat else none
  | _, _, _ => none

def fieldAddrA (P : Program) (t : TypeId) (x : Value) (f : Nat) : Option Value :=
  match P.underlying t, x with
  | some (.struct fields), .pointer (some ⟨i, off, none⟩) => match fields[f]? with
    | some fd => match sizeT P fd.type with
      | some n => if n = 0 then none else some (.pointer (some ⟨i, off + fd.offset, none⟩))
      | none => none
    | none => none
  | _, _ => none

def fieldA (P : Program) (t : TypeId) (x : Value) (f : Nat) : Option Value :=
  match P.underlying t, x with
  | some (.struct fields), .agg cs => match fields[f]? with
    | some fd => partA P fd.type cs.toList fd.offset
    | none => none
  | _, _ => none

def assertA (P : Program) (x : Value) (asserted : TypeId) (ok : Bool) : Option Value :=
  match P.underlying asserted, x with
  | some (.interface want), .iface t _ => match P.info? t with
    | some i => match Instr.missingMethod want i.methods with
      | none => some (if ok then .tuple #[x, .bool true] else x)
      | some _ => if ok then (zeroT P asserted).map fun z => .tuple #[z, .bool false] else none
    | none => none
  | some _, .nilIface => if ok then (zeroT P asserted).map fun z => .tuple #[z, .bool false] else none
  | some _, .iface t v => if t = asserted then some (if ok then .tuple #[v, .bool true] else v)
      else if ok then (zeroT P asserted).map fun z => .tuple #[z, .bool false] else none
  | _, _ => none

/-- The function behind a method's name and the receiver, of a value in an interface. -/
def methodA (P : Program) (t : TypeId) (v : Value) (name : String) : Option (FuncId × Value) :=
  match P.info? t with
  | some i => match i.methods.find? (·.name == name) with
    | some m => if m.path.isEmpty then match m.func with
      | some (f, ptr) => match P.underlying t with
        | some (.pointer _) => if ptr then some (f, v) else none
        | some _ => if ptr then none else some (f, v)
        | none => none
      | none => none
      else none
    | none => none
  | none => none

/-- A function with a body is entered. -/
def enterA (P : Program) (f : FuncId) (args : List Value) : Option ANext :=
  match P.funcs[f]? with
  | some fn => if fn.body.isSome && !(fn.name == "runtime.NumGoroutine") then some (.enter f args) else none
  | none => none

def invokeA (P : Program) (fn : Fn) (args captured : List Value) : Option ANext :=
  match fn with
  | .func f => enterA P f (args ++ captured)
  | .method name => match args with
    | .iface t v :: rest => match methodA P t v name with
      | some (f, r) => enterA P f (r :: rest)
      | none => none
    | _ => none
  | _ => none

def lenA (P : Program) (t : TypeId) (x : Value) (h : Heap) : Option Value :=
  match P.underlying t, x with
  | some .string, .string s => some (.int .i64 s.size)
  | some (.array n _), _ => some (.int .i64 n)
  | some (.slice _), .slice _ n _ => some (.int .i64 n)
  | some (.map _ _), .map none => some (.int .i64 0)
  | some (.map _ _), .map (some r) => match h.obj r with
    | some (.map es) => some (.int .i64 es.length)
    | _ => none
  | _, _ => none

def copyA (P : Program) (argTypes : Array TypeId) (args : List Value) (h : Heap) : Option (Value × Heap) :=
  match argTypes[0]?, args with
  | some dType, [.slice b dLen es, src] => match P.underlying dType with
    | some (.slice e) => match sizeT P e with
      | some n => if n = 0 then none else
        match src with
        | .slice sb sLen es' =>
          let k := Nat.min sLen dLen
          if k = 0 then some (.int .i64 0, h) else
          match b, sb with
          | some ⟨i, off, none⟩, some ⟨j, off', none⟩ => if es = n && es' = n then match h.cells j off' (k * n) with
            | some vs => (h.store i off vs).map fun h' => (.int .i64 k, h')
            | none => none
            else none
          | _, _ => none
        | _ => none
      | none => none
    | _ => none
  | _, _ => none

def maxA (isMax : Bool) : List Value → Option Value
  | [.int k x, .int _ y] => if isMax then some (.int k (if y > x then y else x)) else some (.int k (if y < x then y else x))
  | _ => none

/-- What a key is found to hold: its place and value. -/
def findA (k : Value) : List (Value × Value) → Nat → Option (Option (Nat × Value))
  | [], _ => some none
  | (k', v) :: es, i =>
    match k, k' with
    | .int q a, .int q' b => if q = q' then (if a == b then some (some (i, v)) else findA k es (i + 1)) else none
    | .string a, .string b => if a == b then some (some (i, v)) else findA k es (i + 1)
    | .bool a, .bool b => if a == b then some (some (i, v)) else findA k es (i + 1)
    | _, _ => none

/-- Is a type's value, as a key, told by what it is? -/
def keyT (P : Program) (t : TypeId) (k : Value) : Bool :=
  match P.underlying t, k with
  | some (.int q), .int q' _ => q' == q
  | some .string, .string _ => true
  | some .bool, .bool _ => true
  | _, _ => false

def mapOf (h : Heap) : Value → Option (List (Value × Value))
  | .map none => some []
  | .map (some r) => match h.obj r with
    | some (.map es) => some es
    | _ => none
  | _ => none

def lookupA (P : Program) (t : TypeId) (x k : Value) (ok : Bool) (h : Heap) : Option Value :=
  match P.underlying t with
  | some (.map kt e) =>
    if keyT P kt k then match mapOf h x with
      | some es => match findA k es 0 with
        | some (some (_, v)) => some (if ok then .tuple #[v, .bool true] else v)
        | some none => (zeroT P e).map fun z => if ok then .tuple #[z, .bool false] else z
        | none => none
      | none => none
    else none
  | _ => none

def updateA (P : Program) (t : TypeId) (m k x : Value) (h : Heap) : Option Heap :=
  match P.underlying t, m with
  | some (.map kt _), .map (some r) =>
    if keyT P kt k then match h.obj r with
      | some (.map es) => match findA k es 0 with
        | some (some (i, _)) => some (h.put r (some (.map (es.set i (k, x)))))
        | some none => some (h.put r (some (.map (es ++ [(k, x)]))))
        | none => none
      | _ => none
    else none
  | _, _ => none

def nilCheckA (P : Program) : Value → Option Value
  | .pointer (some a) => some (.pointer (some a))
  | .iface t v => some (.iface t v)
  | .func (.func f) a b => some (.func (.func f) a b)
  | .func (.method name) a b => match a.toList with
    | .iface t v :: _ => match methodA P t v name with
      | some _ => match v with
        | .pointer none => none
        | _ => some (.func (.method name) a b)
      | none => none
    | _ => none
  | _ => none

def callA (P : Program) (G : Nat) (env : Env) (c : Call) (h : Heap) : Option ANext :=
  match evalAll G env c.args.toList with
  | none => none
  | some args => match c.callee with
    | .value f => match evalA G env f with
      | some (.func fn first captured) => invokeA P fn (first.toList ++ args) captured.toList
      | _ => none
    | .invoke recv name => match evalA G env recv with
      | some v => invokeA P (.method name) (v :: args) []
      | none => none
    | .builtin b => match b with
      | .append => (appendA P c.argTypes args h).map fun (v, h') => .val v h'
      | .len => match c.argTypes[0]?, args with
        | some t, [x] => (lenA P t x h).map fun v => .val v h
        | _, _ => none
      | .copy => (copyA P c.argTypes args h).map fun (v, h') => .val v h'
      | .max => (maxA true args).map fun v => .val v h
      | .min => (maxA false args).map fun v => .val v h
      | .panic => match args with
        | [.iface t v] => some (.panic (.iface t v))
        | _ => none
      | _ => none

/-- One operation. -/
def opA (P : Program) (G : Nat) (env : Env) (o : Oper) (h : Heap) : Option ANext :=
  match o.op with
  | .move x => (evalA G env x).map fun v => .val v h
  | .assign x => (evalA G env x).map fun v => .val v h
  | .pick c a b => match evalA G env c with
    | some (.bool true) => (evalA G env a).map fun v => .val v h
    | some (.bool false) => (evalA G env b).map fun v => .val v h
    | _ => none
  | .alloc e => (zeroT P e).map fun z => .val (.pointer (some ⟨h.next, 0, none⟩)) (h.alloc (.cells false z.cells.toList))
  | .box _ x => (evalA G env x).map fun v => .val (.pointer (some ⟨h.next, 0, none⟩)) (h.alloc (.cells false v.cells.toList))
  | .build t parts => match evalParts G env parts.toList with
    | some ps => (buildA P t ps).map fun v => .val v h
    | none => none
  | .buildSlice t len parts => match evalParts G env parts.toList with
    | some ps => (buildSliceA P t len ps h).map fun (v, h') => .val v h'
    | none => none
  | .load t a => match evalA G env a with
    | some (.pointer (some ⟨i, off, none⟩)) => (loadA P t i off h).map fun v => .val v h
    | _ => none
  | .store t a x => match evalA G env a, evalA G env x with
    | some (.pointer (some ⟨i, off, none⟩)), some v => (storeA P t i off v h).map .skip
    | _, _ => none
  | .nilCheck x => match evalA G env x with
    | some v => (nilCheckA P v).map fun v => .val v h
    | none => none
  | .binOp op t x y _ => match evalA G env x, evalA G env y with
    | some a, some b => if eqAsk P op t x y a b then (binA P op t a b).map fun v => .val v h else none
    | _, _ => none
  | .unOp op _ x => match evalA G env x with
    | some v => (unA op v).map fun v => .val v h
    | none => none
  | .convert s d x => match evalA G env x with
    | some v => (convertA P s d v h).map fun (v, h') => .val v h'
    | none => none
  | .makeInterface t x => match P.underlying t, evalA G env x with
    | some (.interface _), _ => none
    | some _, some v => some (.val (.iface t v) h)
    | _, _ => none
  | .makeFunc fn first captured => match evalAll G env first.toList, evalAll G env captured.toList with
    | some f, some c => some (.val (.func fn f.toArray c.toArray) h)
    | _, _ => none
  | .makeMap _ none => some (.val (.map (some h.next)) (h.alloc (.map [])))
  | .makeSlice t l c => match evalA G env l, evalA G env c with
    | some l, some c => (makeSliceA P t l c h).map fun (v, h') => .val v h'
    | _, _ => none
  | .slice t x lo hi none => match evalA G env x, evalAll G env lo.toList, evalAll G env hi.toList with
    | some v, some l, some hh => (sliceA P t v l.head? hh.head?).map fun v => .val v h
    | _, _, _ => none
  | .fieldAddr t x f => match evalA G env x with
    | some v => (fieldAddrA P t v f).map fun v => .val v h
    | none => none
  | .field t x f => match evalA G env x with
    | some v => (fieldA P t v f).map fun v => .val v h
    | none => none
  | .indexAddr t x i => match evalA G env x, evalA G env i with
    | some v, some k => (indexAddrA P t v k).map fun v => .val v h
    | _, _ => none
  | .index t x i => match evalA G env x, evalA G env i with
    | some v, some k => (indexA P t v k).map fun v => .val v h
    | _, _ => none
  | .lookup t x k ok => match evalA G env x, evalA G env k with
    | some m, some k => (lookupA P t m k ok h).map fun v => .val v h
    | _, _ => none
  | .mapUpdate t m k x | .insert t m k x => match evalA G env m, evalA G env k, evalA G env x with
    | some m, some k, some x => (updateA P t m k x h).map .skip
    | _, _, _ => none
  | .typeAssert x _ t ok => match evalA G env x with
    | some v => (assertA P v t ok).map fun v => .val v h
    | none => none
  | .extract t i => match evalA G env t with
    | some (.tuple vs) => (vs[i]?).map fun v => .val v h
    | _ => none
  | .call c => callA P G env c h
  | .panic x => match evalA G env x with
    | some (.iface t v) => some (.panic (.iface t v))
    | _ => none
  | _ => none

end Go.Am
