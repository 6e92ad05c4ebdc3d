/-
  The abstract machine, part 20: the rules of the walk, operation by operation.
-/
import Derived.Test.YtfooolbjhhfbiaaDoorZamWalk
namespace Go.Am
set_option linter.unusedVariables false
set_option linter.unusedSimpArgs false
open Go.RowKit (Below)

section
variable {P : Program} {G : Nat} {X : ExtFn} {n : Nat} {F : List PanicEntry → Heap → Prop} {env : Env} {h : Heap} {lt : Bool} {ops : Array Oper} {d : Nat} {t : TypeId} {p : String} {a : Array Edge} {g : Option (Nat × Bool)} {K : Env → Heap → (Heap → Prop) → Prop}

/-- The list, its spine laid open. -/
def forceL : List Value → Option (List Value)
  | [] => some []
  | a :: l => match forceL l with
    | some l' => some (a :: l')
    | none => none

theorem forceL_eq : ∀ {l l' : List Value}, forceL l = some l' → l = l'
  | [], l', h => by simp [forceL] at h; exact h.symm
  | a :: l, l', h => by
    unfold forceL at h
    split at h
    · rename_i l2 h2
      simp at h; subst h
      rw [forceL_eq h2]
    · cases h

def normV : Value → Option Value
  | .agg cs => match forceL cs.toList with
    | some l => some (.agg (List.toArray l))
    | none => none
  | .bool b => some (.bool b)
  | .int k n => some (.int k n)
  | .string s => some (.string s)
  | .pointer a => some (.pointer a)
  | .slice a n c => some (.slice a n c)
  | .iface t v => some (.iface t v)
  | .nilIface => some .nilIface
  | .nilFunc => some .nilFunc
  | .map m => some (.map m)
  | .func f a b => some (.func f a b)
  | .tuple cs => match forceL cs.toList with
    | some l => some (.tuple (List.toArray l))
    | none => none
  | _ => none

theorem normV_eq {v v' : Value} (h : normV v = some v') : v = v' := by
  unfold normV at h
  split at h
  case h_1 cs =>
    split at h
    · rename_i l hl
      simp at h; subst h
      rw [← forceL_eq hl]
    · cases h
  case h_12 cs =>
    split at h
    · rename_i l hl
      simp at h; subst h
      rw [← forceL_eq hl]
    · cases h
  all_goals first | (cases h; done) | (simp at h; exact h)

/-- Where the fields of a struct type lie that have cells. -/
def fieldOffs (P : Program) (t : TypeId) : List (Option Nat) :=
  match P.underlying t with
  | some (.struct fields) => fields.toList.map fun fd => match sizeT P fd.type with
    | some (_ + 1) => some fd.offset
    | _ => none
  | _ => []

theorem fieldAddrA_of {ty : TypeId} {f o i off : Nat} (h : (fieldOffs P ty)[f]? = some (some o)) : fieldAddrA P ty (.pointer (some ⟨i, off, none⟩)) f = some (.pointer (some ⟨i, off + o, none⟩)) := by
  unfold fieldOffs at h
  unfold fieldAddrA
  split at h
  · rename_i fields hu
    simp only [hu]
    rw [List.getElem?_map] at h
    have hf : fields[f]? = fields.toList[f]? := by simp
    rw [hf]
    cases hq : fields.toList[f]? with
    | none => rw [hq] at h; cases h
    | some fd =>
      rw [hq] at h
      simp only [Option.map_some, Option.some.injEq] at h
      split at h
      · rename_i m hm
        simp only [Option.some.injEq] at h
        subst h
        simp only [hm]
        rw [if_neg (Nat.succ_ne_zero m)]
      · cases h
  · simp at h

theorem WS.move {x : Operand} {v : Value} (hg : gOk ops env g = some true) (hn : Nat.blt d n = true) (hx : evalA G env x = some v)
    (hk : K (upd env d v) h fun _ => True) : WS P G X n lt ops ⟨some d, .move x, t, p, a, g⟩ env h K F := WS.same hg hn (fun h => opA_move hx) hk
theorem WS.assign {x : Operand} {v : Value} (hg : gOk ops env g = some true) (hn : Nat.blt d n = true) (hx : evalA G env x = some v)
    (hk : K (upd env d v) h fun _ => True) : WS P G X n lt ops ⟨some d, .assign x, t, p, a, g⟩ env h K F := WS.same hg hn (fun h => opA_assign hx) hk
theorem WS.pickT {c x y : Operand} {v : Value} (hg : gOk ops env g = some true) (hn : Nat.blt d n = true) (hc : evalA G env c = some (.bool true))(hx : evalA G env x = some v)
    (hk : K (upd env d v) h fun _ => True) : WS P G X n lt ops ⟨some d, .pick c x y, t, p, a, g⟩ env h K F := WS.same hg hn (fun h => opA_pickT hc hx) hk
theorem WS.pickF {c x y : Operand} {v : Value} (hg : gOk ops env g = some true) (hn : Nat.blt d n = true) (hc : evalA G env c = some (.bool false))(hy : evalA G env y = some v)
    (hk : K (upd env d v) h fun _ => True) : WS P G X n lt ops ⟨some d, .pick c x y, t, p, a, g⟩ env h K F := WS.same hg hn (fun h => opA_pickF hc hy) hk
theorem WS.not {ty : TypeId} {x : Operand} {b : Bool} (hg : gOk ops env g = some true) (hn : Nat.blt d n = true) (hx : evalA G env x = some (.bool b))
    (hk : K (upd env d (.bool !b)) h fun _ => True) : WS P G X n lt ops ⟨some d, .unOp .not ty x, t, p, a, g⟩ env h K F := WS.same hg hn (fun h => opA_not hx) hk
theorem WS.addI {ty : TypeId} {x y : Operand} {c} {i j : Int} (hg : gOk ops env g = some true) (hn : Nat.blt d n = true) (hx : evalA G env x = some (.int .i64 i))(hy : evalA G env y = some (.int .i64 j))(hr : -9223372036854775808 ≤ i + j ∧ i + j ≤ 9223372036854775807)
    (hk : K (upd env d (.int .i64 (i + j))) h fun _ => True) : WS P G X n lt ops ⟨some d, .binOp .add ty x y c, t, p, a, g⟩ env h K F := WS.same hg hn (fun h => opA_addI hx hy hr) hk
theorem WS.subI {ty : TypeId} {x y : Operand} {c} {i j : Int} (hg : gOk ops env g = some true) (hn : Nat.blt d n = true) (hx : evalA G env x = some (.int .i64 i))(hy : evalA G env y = some (.int .i64 j))(hr : -9223372036854775808 ≤ i - j ∧ i - j ≤ 9223372036854775807)
    (hk : K (upd env d (.int .i64 (i - j))) h fun _ => True) : WS P G X n lt ops ⟨some d, .binOp .sub ty x y c, t, p, a, g⟩ env h K F := WS.same hg hn (fun h => opA_subI hx hy hr) hk
theorem WS.mulI {ty : TypeId} {x y : Operand} {c} {i j : Int} (hg : gOk ops env g = some true) (hn : Nat.blt d n = true) (hx : evalA G env x = some (.int .i64 i))(hy : evalA G env y = some (.int .i64 j))(hr : -9223372036854775808 ≤ i * j ∧ i * j ≤ 9223372036854775807)
    (hk : K (upd env d (.int .i64 (i * j))) h fun _ => True) : WS P G X n lt ops ⟨some d, .binOp .mul ty x y c, t, p, a, g⟩ env h K F := WS.same hg hn (fun h => opA_mulI hx hy hr) hk
theorem WS.addS {ty : TypeId} {x y : Operand} {c} {i j : ByteArray} (hg : gOk ops env g = some true) (hn : Nat.blt d n = true) (hx : evalA G env x = some (.string i))(hy : evalA G env y = some (.string j))(hs : i.size + j.size ≤ 140737488355328)
    (hk : K (upd env d (.string (i ++ j))) h fun _ => True) : WS P G X n lt ops ⟨some d, .binOp .add ty x y c, t, p, a, g⟩ env h K F := WS.same hg hn (fun h => opA_addS hx hy hs) hk
theorem WS.bin {op : BinOp} {ty : TypeId} {x y : Operand} {c} {u w v : Value} (hg : gOk ops env g = some true) (hn : Nat.blt d n = true) (hx : evalA G env x = some u)(hy : evalA G env y = some w)(hq : eqAsk P op ty x y u w = true) (hv : binA P op ty u w = some v)
    (hk : K (upd env d v) h fun _ => True) : WS P G X n lt ops ⟨some d, .binOp op ty x y c, t, p, a, g⟩ env h K F := WS.same hg hn (fun h => by simp only [opA, hx, hy, hq, if_true, hv, Option.map_some]) hk
theorem WS.un {op : UnOp} {ty : TypeId} {x : Operand} {u v : Value} (hg : gOk ops env g = some true) (hn : Nat.blt d n = true) (hx : evalA G env x = some u)(hv : unA op u = some v)
    (hk : K (upd env d v) h fun _ => True) : WS P G X n lt ops ⟨some d, .unOp op ty x, t, p, a, g⟩ env h K F := WS.same hg hn (fun h => by simp only [opA, hx, hv, Option.map_some]) hk
theorem WS.nilCheck {x : Operand} {q : Addr} (hg : gOk ops env g = some true) (hn : Nat.blt d n = true) (hx : evalA G env x = some (.pointer (some q)))
    (hk : K (upd env d (.pointer (some q))) h fun _ => True) : WS P G X n lt ops ⟨some d, .nilCheck x, t, p, a, g⟩ env h K F := WS.same hg hn (fun h => by simp only [opA, hx, nilCheckA, Option.map_some]) hk
theorem WS.nilCheckG {x : Operand} {u v : Value} (hg : gOk ops env g = some true) (hn : Nat.blt d n = true) (hx : evalA G env x = some u)(hv : nilCheckA P u = some v)
    (hk : K (upd env d v) h fun _ => True) : WS P G X n lt ops ⟨some d, .nilCheck x, t, p, a, g⟩ env h K F := WS.same hg hn (fun h => by simp only [opA, hx, hv, Option.map_some]) hk
theorem WS.fieldAddr {ty : TypeId} {x : Operand} {f : Nat} {i off o : Nat} (hg : gOk ops env g = some true) (hn : Nat.blt d n = true) (hx : evalA G env x = some (.pointer (some ⟨i, off, none⟩))) (hv : (fieldOffs P ty)[f]? = some (some o))
    (hk : K (upd env d (.pointer (some ⟨i, off + o, none⟩))) h fun _ => True) : WS P G X n lt ops ⟨some d, .fieldAddr ty x f, t, p, a, g⟩ env h K F := WS.same hg hn (fun h => by simp only [opA, hx, fieldAddrA_of hv, Option.map_some]) hk
theorem WS.field {ty : TypeId} {x : Operand} {f : Nat} {u v0 v : Value} (hg : gOk ops env g = some true) (hn : Nat.blt d n = true) (hx : evalA G env x = some u)(hv0 : fieldA P ty u f = some v0) (hf : normV v0 = some v)
    (hk : K (upd env d v) h fun _ => True) : WS P G X n lt ops ⟨some d, .field ty x f, t, p, a, g⟩ env h K F := WS.same hg hn (fun h => by cases normV_eq hf; simp only [opA, hx, hv0, Option.map_some]) hk
theorem WS.indexAddr {ty : TypeId} {x y : Operand} {e : TypeId} {i off len es : Nat} {k : Int} {q} (hg : gOk ops env g = some true) (hn : Nat.blt d n = true) (hx : evalA G env x = some (.slice (some ⟨i, off, none⟩) len es))(hy : evalA G env y = some (.int q k))(hu : P.underlying ty = some (.slice e)) (hs : sizeT P e = some es) (hb : 0 ≤ k ∧ k < len)
    (hk : K (upd env d (.pointer (some ⟨i, off + k.toNat * es, none⟩))) h fun _ => True) : WS P G X n lt ops ⟨some d, .indexAddr ty x y, t, p, a, g⟩ env h K F := WS.same hg hn (fun h => by simp only [opA, hx, hy, indexAddrA, hu, hs]; rw [if_pos (by simp [hb.1, hb.2])]; rfl) hk
theorem WS.indexAddrP {ty : TypeId} {x y : Operand} {e : TypeId} {i off len es : Nat} {k : Int} {q} (hg : gOk ops env g = some true) (hn : Nat.blt d n = true) (hx : evalA G env x = some (.pointer (some ⟨i, off, none⟩)))(hy : evalA G env y = some (.int q k))(hu : P.underlying ty = some (.array len e)) (hs : sizeT P e = some es) (hb : 0 ≤ k ∧ k < len)
    (hk : K (upd env d (.pointer (some ⟨i, off + k.toNat * es, none⟩))) h fun _ => True) : WS P G X n lt ops ⟨some d, .indexAddr ty x y, t, p, a, g⟩ env h K F := WS.same hg hn (fun h => by simp only [opA, hx, hy, indexAddrA, hu, hs]; rw [if_pos (by simp [hb.1, hb.2])]; rfl) hk

/-- The byte at a place. -/
def byteN (s : ByteArray) (k : Int) : Int := (s.data.toList.getD k.toNat 0).toNat

theorem byteN_at {s : ByteArray} {k : Int} (hb : 0 ≤ k ∧ k < s.size) : ∃ b : UInt8, s[k.toNat]? = some b ∧ byteN s k = b.toNat := by
  have hk : k.toNat < s.size := by omega
  refine ⟨s[k.toNat], by simp [hk], ?_⟩
  unfold byteN
  rw [List.getD_eq_getElem?_getD]
  have : s.data.toList[k.toNat]? = some s[k.toNat] := by
    rw [List.getElem?_eq_getElem (by simpa using hk)]
    rfl
  rw [this]; rfl

theorem byteN_range (s : ByteArray) (k : Int) : 0 ≤ byteN s k ∧ byteN s k ≤ 255 := by
  unfold byteN
  have := (s.data.toList.getD k.toNat 0).toNat_lt
  omega

theorem WS.indexS {ty : TypeId} {x y : Operand} {s : ByteArray} {k : Int} {q} (hg : gOk ops env g = some true) (hn : Nat.blt d n = true) (hx : evalA G env x = some (.string s))(hy : evalA G env y = some (.int q k))(hu : P.underlying ty = some .string) (hb : 0 ≤ k ∧ k < s.size)
    (hk : K (upd env d (.int .u8 (byteN s k))) h fun _ => True) : WS P G X n lt ops ⟨some d, .index ty x y, t, p, a, g⟩ env h K F := WS.same hg hn (fun h => by obtain ⟨b, h1, h2⟩ := byteN_at hb; simp only [opA, hx, hy, indexA, hu]; rw [if_pos hb.1, h1, h2]; rfl) hk
theorem WS.index {ty : TypeId} {x y : Operand} {u w v : Value} (hg : gOk ops env g = some true) (hn : Nat.blt d n = true) (hx : evalA G env x = some u)(hy : evalA G env y = some w)(hv : indexA P ty u w = some v)
    (hk : K (upd env d v) h fun _ => True) : WS P G X n lt ops ⟨some d, .index ty x y, t, p, a, g⟩ env h K F := WS.same hg hn (fun h => by simp only [opA, hx, hy, hv, Option.map_some]) hk
/-- A piece of a string. -/
def bsub (s : ByteArray) (l r : Int) : ByteArray := s.extract l.toNat r.toNat
theorem bsub_eq (s : ByteArray) (l r : Int) : bsub s l r = s.extract l.toNat r.toNat := rfl
theorem bsub_size {s : ByteArray} {l r : Int} (h : 0 ≤ l ∧ l ≤ r ∧ r ≤ s.size) : ((bsub s l r).size : Int) = r - l := by
  unfold bsub; rw [ByteArray.size_extract]; omega

theorem WS.sliceS {ty : TypeId} {x lo hi : Operand} {s : ByteArray} {l r : Int} {q q2} (hg : gOk ops env g = some true) (hn : Nat.blt d n = true) (hx : evalA G env x = some (.string s))(hlo : evalA G env lo = some (.int q l))(hhi : evalA G env hi = some (.int q2 r))(hu : P.underlying ty = some .string) (hb : 0 ≤ l ∧ l ≤ r ∧ r ≤ s.size)
    (hk : K (upd env d (.string (bsub s l r))) h fun _ => True) : WS P G X n lt ops ⟨some d, .slice ty x (some lo) (some hi) none, t, p, a, g⟩ env h K F := WS.same hg hn (fun h => by simp only [opA, hx, evalAll, hlo, hhi, sliceA, hu, boundA, Option.toList, List.head?_cons]; rw [if_pos (by simp; omega)]; simp only []; rw [if_pos (by simp; omega)]; rfl) hk
theorem WS.sliceSlo {ty : TypeId} {x lo : Operand} {s : ByteArray} {l : Int} {q} (hg : gOk ops env g = some true) (hn : Nat.blt d n = true) (hx : evalA G env x = some (.string s))(hlo : evalA G env lo = some (.int q l))(hu : P.underlying ty = some .string) (hb : 0 ≤ l ∧ l ≤ s.size)
    (hk : K (upd env d (.string (bsub s l s.size))) h fun _ => True) : WS P G X n lt ops ⟨some d, .slice ty x (some lo) none none, t, p, a, g⟩ env h K F := WS.same hg hn (fun h => by simp only [opA, hx, evalAll, hlo, sliceA, hu, boundA, Option.toList, List.head?_cons, List.head?_nil]; rw [if_pos (by simp; omega)]; rfl) hk
theorem WS.sliceShi {ty : TypeId} {x hi : Operand} {s : ByteArray} {r : Int} {q} (hg : gOk ops env g = some true) (hn : Nat.blt d n = true) (hx : evalA G env x = some (.string s))(hhi : evalA G env hi = some (.int q r))(hu : P.underlying ty = some .string) (hb : 0 ≤ r ∧ r ≤ s.size)
    (hk : K (upd env d (.string (bsub s 0 r))) h fun _ => True) : WS P G X n lt ops ⟨some d, .slice ty x none (some hi) none, t, p, a, g⟩ env h K F := WS.same hg hn (fun h => by simp only [opA, hx, evalAll, hhi, sliceA, hu, boundA, Option.toList, List.head?_cons, List.head?_nil]; rw [if_pos (by simp; omega)]; rfl) hk
theorem WS.slice {ty : TypeId} {x : Operand} {lo hi : Option Operand} {u v : Value} {l r : List Value} (hg : gOk ops env g = some true) (hn : Nat.blt d n = true) (hx : evalA G env x = some u)(hl : evalAll G env lo.toList = some l) (hh : evalAll G env hi.toList = some r) (hv : sliceA P ty u l.head? r.head? = some v)
    (hk : K (upd env d v) h fun _ => True) : WS P G X n lt ops ⟨some d, .slice ty x lo hi none, t, p, a, g⟩ env h K F := WS.same hg hn (fun h => by simp only [opA, hx, hl, hh, hv, Option.map_some]) hk
theorem WS.build {ty : TypeId} {parts} {ps} {v0 v : Value} (hg : gOk ops env g = some true) (hn : Nat.blt d n = true) (hp : evalParts G env parts.toList = some ps) (hv0 : buildA P ty ps = some v0) (hf : normV v0 = some v)
    (hk : K (upd env d v) h fun _ => True) : WS P G X n lt ops ⟨some d, .build ty parts, t, p, a, g⟩ env h K F := WS.same hg hn (fun h => by cases normV_eq hf; simp only [opA, hp, hv0, Option.map_some]) hk
theorem WS.iface {ty : TypeId} {x : Operand} {v : Value} {u} (hg : gOk ops env g = some true) (hn : Nat.blt d n = true) (hx : evalA G env x = some v)(hu : P.underlying ty = some u) (hi : ∀ m, u ≠ .interface m)
    (hk : K (upd env d (.iface ty v)) h fun _ => True) : WS P G X n lt ops ⟨some d, .makeInterface ty x, t, p, a, g⟩ env h K F := WS.same hg hn (fun h => by cases u <;> first | exact (hi _ rfl).elim | simp only [opA, hx, hu]) hk
theorem WS.makeFunc {fn : Fn} {first cap : Array Operand} {f c} (hg : gOk ops env g = some true) (hn : Nat.blt d n = true) (hf : evalAll G env first.toList = some f) (hc : evalAll G env cap.toList = some c)
    (hk : K (upd env d (.func fn f.toArray c.toArray)) h fun _ => True) : WS P G X n lt ops ⟨some d, .makeFunc fn first cap, t, p, a, g⟩ env h K F := WS.same hg hn (fun h => by simp only [opA, hf, hc]) hk
theorem WS.extractN {x : Operand} {i : Nat} {vs : Array Value} {v0 v : Value} (hg : gOk ops env g = some true) (hn : Nat.blt d n = true) (hx : evalA G env x = some (.tuple vs)) (hv : vs[i]? = some v0) (hf : normV v0 = some v)
    (hk : K (upd env d v) h fun _ => True) : WS P G X n lt ops ⟨some d, .extract x i, t, p, a, g⟩ env h K F := WS.same hg hn (fun h => by cases normV_eq hf; simp only [opA, hx, hv, Option.map_some]) hk
theorem WS.extract {x : Operand} {i : Nat} {vs : Array Value} {v : Value} (hg : gOk ops env g = some true) (hn : Nat.blt d n = true) (hx : evalA G env x = some (.tuple vs))(hv : vs[i]? = some v)
    (hk : K (upd env d v) h fun _ => True) : WS P G X n lt ops ⟨some d, .extract x i, t, p, a, g⟩ env h K F := WS.same hg hn (fun h => by simp only [opA, hx, hv, Option.map_some]) hk
theorem WS.assert {ty ty2 : TypeId} {ok : Bool} {x : Operand} {u v : Value} (hg : gOk ops env g = some true) (hn : Nat.blt d n = true) (hx : evalA G env x = some u)(hv : assertA P u ty2 ok = some v)
    (hk : K (upd env d v) h fun _ => True) : WS P G X n lt ops ⟨some d, .typeAssert x ty ty2 ok, t, p, a, g⟩ env h K F := WS.same hg hn (fun h => by simp only [opA, hx, hv, Option.map_some]) hk
theorem WS.lenS {ty : TypeId} {x : Operand} {s : ByteArray} (hg : gOk ops env g = some true) (hn : Nat.blt d n = true) (hx : evalA G env x = some (.string s))(hu : P.underlying ty = some .string)
    (hk : K (upd env d (.int .i64 s.size)) h fun _ => True) : WS P G X n lt ops ⟨some d, .call ⟨.builtin .len, #[x], #[ty]⟩, t, p, a, g⟩ env h K F := WS.same hg hn (fun h => by simp only [opA, callA, evalAll, hx, lenA, hu, List.getElem?_toArray, List.getElem?_cons_zero, Option.map_some]) hk
theorem WS.lenL {ty e : TypeId} {x : Operand} {b} {m es : Nat} (hg : gOk ops env g = some true) (hn : Nat.blt d n = true) (hx : evalA G env x = some (.slice b m es))(hu : P.underlying ty = some (.slice e))
    (hk : K (upd env d (.int .i64 m)) h fun _ => True) : WS P G X n lt ops ⟨some d, .call ⟨.builtin .len, #[x], #[ty]⟩, t, p, a, g⟩ env h K F := WS.same hg hn (fun h => by simp only [opA, callA, evalAll, hx, lenA, hu, List.getElem?_toArray, List.getElem?_cons_zero, Option.map_some]) hk
theorem WS.max {tys} {x y : Operand} {k k2 : IntKind} {i j : Int} (hg : gOk ops env g = some true) (hn : Nat.blt d n = true) (hx : evalA G env x = some (.int k i))(hy : evalA G env y = some (.int k2 j))
    (hk : K (upd env d (.int k (if j > i then j else i))) h fun _ => True) : WS P G X n lt ops ⟨some d, .call ⟨.builtin .max, #[x, y], tys⟩, t, p, a, g⟩ env h K F := WS.same hg hn (fun h => by simp only [opA, callA, evalAll, hx, hy, maxA, if_true, Option.map_some]) hk
theorem WS.min {tys} {x y : Operand} {k k2 : IntKind} {i j : Int} (hg : gOk ops env g = some true) (hn : Nat.blt d n = true) (hx : evalA G env x = some (.int k i))(hy : evalA G env y = some (.int k2 j))
    (hk : K (upd env d (.int k (if j < i then j else i))) h fun _ => True) : WS P G X n lt ops ⟨some d, .call ⟨.builtin .min, #[x, y], tys⟩, t, p, a, g⟩ env h K F := WS.same hg hn (fun h => by simp only [opA, callA, evalAll, hx, hy, maxA, Bool.false_eq_true, if_false, Option.map_some]) hk
theorem WS.convI {ty ty2 : TypeId} {x : Operand} {k k2 : IntKind} {i : Int} {u} (hg : gOk ops env g = some true) (hn : Nat.blt d n = true) (hx : evalA G env x = some (.int k2 i))(hu : P.underlying ty = some u) (hu2 : P.underlying ty2 = some (.int k)) (hr : k.wrap i = i)
    (hk : K (upd env d (.int k i)) h fun _ => True) : WS P G X n lt ops ⟨some d, .convert ty ty2 x, t, p, a, g⟩ env h K F := WS.same hg hn (fun h => by simp only [opA, hx, convertA, hu, hu2, hr, Option.map_some]) hk
theorem WS.convG {ty ty2 : TypeId} {x : Operand} {u v : Value} (hg : gOk ops env g = some true) (hn : Nat.blt d n = true) (hx : evalA G env x = some u)(hv : ∀ h, convertA P ty ty2 u h = some (v, h))
    (hk : K (upd env d v) h fun _ => True) : WS P G X n lt ops ⟨some d, .convert ty ty2 x, t, p, a, g⟩ env h K F := WS.same hg hn (fun h => by simp only [opA, hx, hv, Option.map_some]) hk
theorem WS.addK {ty : TypeId} {x y : Operand} {c} {k : IntKind} {i j : Int} (hg : gOk ops env g = some true) (hn : Nat.blt d n = true) (hx : evalA G env x = some (.int k i))(hy : evalA G env y = some (.int k j))(hr : k.wrap (i + j) = i + j)
    (hk : K (upd env d (.int k (i + j))) h fun _ => True) : WS P G X n lt ops ⟨some d, .binOp .add ty x y c, t, p, a, g⟩ env h K F := WS.same hg hn (fun h => opA_int hx hy (by simp [binA, intBin, hr])) hk
theorem WS.subK {ty : TypeId} {x y : Operand} {c} {k : IntKind} {i j : Int} (hg : gOk ops env g = some true) (hn : Nat.blt d n = true) (hx : evalA G env x = some (.int k i))(hy : evalA G env y = some (.int k j))(hr : k.wrap (i - j) = i - j)
    (hk : K (upd env d (.int k (i - j))) h fun _ => True) : WS P G X n lt ops ⟨some d, .binOp .sub ty x y c, t, p, a, g⟩ env h K F := WS.same hg hn (fun h => opA_int hx hy (by simp [binA, intBin, hr])) hk
theorem WS.mulK {ty : TypeId} {x y : Operand} {c} {k : IntKind} {i j : Int} (hg : gOk ops env g = some true) (hn : Nat.blt d n = true) (hx : evalA G env x = some (.int k i))(hy : evalA G env y = some (.int k j))(hr : k.wrap (i * j) = i * j)
    (hk : K (upd env d (.int k (i * j))) h fun _ => True) : WS P G X n lt ops ⟨some d, .binOp .mul ty x y c, t, p, a, g⟩ env h K F := WS.same hg hn (fun h => opA_int hx hy (by simp [binA, intBin, hr])) hk
theorem WS.bytesOf {ty ty2 e : TypeId} {x : Operand} {s : ByteArray} {u} (hg : gOk ops env g = some true) (hn : Nat.blt d n = true) (hx : evalA G env x = some (.string s)) (hu : P.underlying ty = some u) (hu2 : P.underlying ty2 = some (.slice e)) (hu3 : P.underlying e = some (.int .u8))
    (hk : K (upd env d (.slice (some ⟨h.next, 0, none⟩) s.size 1)) (h.alloc (.cells false (s.data.toList.map fun b => Value.int .u8 b.toNat))) fun _ => False) : WS P G X n lt ops ⟨some d, .convert ty ty2 x, t, p, a, g⟩ env h K F :=
  WS.val _ hg hn (by simp only [opA, hx, convertA, hu, hu2, hu3, Option.map_some]) (fun _ hf => hf.elim) hk
theorem WS.eqI {ty : TypeId} {x y : Operand} {c} {k : IntKind} {i j : Int} (hg : gOk ops env g = some true) (hn : Nat.blt d n = true) (hx : evalA G env x = some (.int k i)) (hy : evalA G env y = some (.int k j))
    (h1 : i = j → K (upd env d (.bool true)) h fun _ => True) (h2 : ¬(i = j) → K (upd env d (.bool false)) h fun _ => True) : WS P G X n lt ops ⟨some d, .binOp .eql ty x y c, t, p, a, g⟩ env h K F := WS.askP hg hn (fun h => opA_eqI hx hy) h1 h2
theorem WS.neI {ty : TypeId} {x y : Operand} {c} {k : IntKind} {i j : Int} (hg : gOk ops env g = some true) (hn : Nat.blt d n = true) (hx : evalA G env x = some (.int k i)) (hy : evalA G env y = some (.int k j))
    (h1 : i ≠ j → K (upd env d (.bool true)) h fun _ => True) (h2 : ¬(i ≠ j) → K (upd env d (.bool false)) h fun _ => True) : WS P G X n lt ops ⟨some d, .binOp .neq ty x y c, t, p, a, g⟩ env h K F := WS.askP hg hn (fun h => opA_neI hx hy) h1 h2
theorem WS.ltI {ty : TypeId} {x y : Operand} {c} {k : IntKind} {i j : Int} (hg : gOk ops env g = some true) (hn : Nat.blt d n = true) (hx : evalA G env x = some (.int k i)) (hy : evalA G env y = some (.int k j))
    (h1 : i < j → K (upd env d (.bool true)) h fun _ => True) (h2 : ¬(i < j) → K (upd env d (.bool false)) h fun _ => True) : WS P G X n lt ops ⟨some d, .binOp .lss ty x y c, t, p, a, g⟩ env h K F := WS.askP hg hn (fun h => opA_ltI hx hy) h1 h2
theorem WS.leI {ty : TypeId} {x y : Operand} {c} {k : IntKind} {i j : Int} (hg : gOk ops env g = some true) (hn : Nat.blt d n = true) (hx : evalA G env x = some (.int k i)) (hy : evalA G env y = some (.int k j))
    (h1 : i ≤ j → K (upd env d (.bool true)) h fun _ => True) (h2 : ¬(i ≤ j) → K (upd env d (.bool false)) h fun _ => True) : WS P G X n lt ops ⟨some d, .binOp .leq ty x y c, t, p, a, g⟩ env h K F := WS.askP hg hn (fun h => opA_leI hx hy) h1 h2
theorem WS.gtI {ty : TypeId} {x y : Operand} {c} {k : IntKind} {i j : Int} (hg : gOk ops env g = some true) (hn : Nat.blt d n = true) (hx : evalA G env x = some (.int k i)) (hy : evalA G env y = some (.int k j))
    (h1 : j < i → K (upd env d (.bool true)) h fun _ => True) (h2 : ¬(j < i) → K (upd env d (.bool false)) h fun _ => True) : WS P G X n lt ops ⟨some d, .binOp .gtr ty x y c, t, p, a, g⟩ env h K F := WS.askP hg hn (fun h => opA_gtI hx hy) h1 h2
theorem WS.geI {ty : TypeId} {x y : Operand} {c} {k : IntKind} {i j : Int} (hg : gOk ops env g = some true) (hn : Nat.blt d n = true) (hx : evalA G env x = some (.int k i)) (hy : evalA G env y = some (.int k j))
    (h1 : j ≤ i → K (upd env d (.bool true)) h fun _ => True) (h2 : ¬(j ≤ i) → K (upd env d (.bool false)) h fun _ => True) : WS P G X n lt ops ⟨some d, .binOp .geq ty x y c, t, p, a, g⟩ env h K F := WS.askP hg hn (fun h => opA_geI hx hy) h1 h2
theorem WS.eqS {ty : TypeId} {x y : Operand} {c} {i j : ByteArray} (hg : gOk ops env g = some true) (hn : Nat.blt d n = true) (hx : evalA G env x = some (.string i)) (hy : evalA G env y = some (.string j))
    (h1 : i = j → K (upd env d (.bool true)) h fun _ => True) (h2 : ¬(i = j) → K (upd env d (.bool false)) h fun _ => True) : WS P G X n lt ops ⟨some d, .binOp .eql ty x y c, t, p, a, g⟩ env h K F := WS.askP hg hn (fun h => opA_eqS hx hy) h1 h2
theorem WS.neS {ty : TypeId} {x y : Operand} {c} {i j : ByteArray} (hg : gOk ops env g = some true) (hn : Nat.blt d n = true) (hx : evalA G env x = some (.string i)) (hy : evalA G env y = some (.string j))
    (h1 : i ≠ j → K (upd env d (.bool true)) h fun _ => True) (h2 : ¬(i ≠ j) → K (upd env d (.bool false)) h fun _ => True) : WS P G X n lt ops ⟨some d, .binOp .neq ty x y c, t, p, a, g⟩ env h K F := WS.askP hg hn (fun h => opA_neS hx hy) h1 h2
theorem WS.eqG {ty : TypeId} {x y : Operand} {c} {u w : Value} {b : Bool} (hg : gOk ops env g = some true) (hn : Nat.blt d n = true) (hx : evalA G env x = some u) (hy : evalA G env y = some w) (hq : eqAsk P .eql ty x y u w = true) (hv : binA P .eql ty u w = some (.bool b))
    (h1 : b = true → K (upd env d (.bool true)) h fun _ => True) (h2 : b = false → K (upd env d (.bool false)) h fun _ => True) : WS P G X n lt ops ⟨some d, .binOp .eql ty x y c, t, p, a, g⟩ env h K F :=
  WS.askB hg hn (fun h => by simp only [opA, hx, hy, hq, if_true, hv, Option.map_some]) h1 h2
theorem WS.neG {ty : TypeId} {x y : Operand} {c} {u w : Value} {b : Bool} (hg : gOk ops env g = some true) (hn : Nat.blt d n = true) (hx : evalA G env x = some u) (hy : evalA G env y = some w) (hq : eqAsk P .neq ty x y u w = true) (hv : binA P .neq ty u w = some (.bool b))
    (h1 : b = true → K (upd env d (.bool true)) h fun _ => True) (h2 : b = false → K (upd env d (.bool false)) h fun _ => True) : WS P G X n lt ops ⟨some d, .binOp .neq ty x y c, t, p, a, g⟩ env h K F :=
  WS.askB hg hn (fun h => by simp only [opA, hx, hy, hq, if_true, hv, Option.map_some]) h1 h2

theorem WS.loadS {ty : TypeId} {x : Operand} {i off : Nat} {v : Value} {ro : Bool} {cs : List Value} (hg : gOk ops env g = some true) (hn : Nat.blt d n = true) (hx : evalA G env x = some (.pointer (some ⟨i, off, none⟩))) (ht : aggT P ty = some false)
    (ho : h.obj i = some (.cells ro cs)) (hc : cs[off]? = some v) (hk : K (upd env d v) h fun H => H.obj i = some (.cells ro cs)) : WS P G X n lt ops ⟨some d, .load ty x, t, p, a, g⟩ env h K F := by
  have : ∀ H : Heap, H.obj i = some (.cells ro cs) → opA P G env ⟨some d, .load ty x, t, p, a, g⟩ H = some (.val v H) := by
    intro H hH
    refine opA_load hx ?_
    simp only [loadA, ht, Heap.cell, hH, hc]
  exact WS.val _ hg hn (this h ho) (fun H hH => this H hH) hk

theorem WS.loadG {ty : TypeId} {x : Operand} {i off m : Nat} {ro : Bool} {cs vs : List Value} (hg : gOk ops env g = some true) (hn : Nat.blt d n = true) (hx : evalA G env x = some (.pointer (some ⟨i, off, none⟩))) (ht : aggT P ty = some true) (hs : sizeT P ty = some m)
    (ho : h.obj i = some (.cells ro cs)) (hc : off + m ≤ cs.length) (hv' : forceL ((cs.drop off).take m) = some vs) (hk : K (upd env d (.agg vs.toArray)) h fun H => H.obj i = some (.cells ro cs)) : WS P G X n lt ops ⟨some d, .load ty x, t, p, a, g⟩ env h K F := by
  have hv := forceL_eq hv'
  have : ∀ H : Heap, H.obj i = some (.cells ro cs) → opA P G env ⟨some d, .load ty x, t, p, a, g⟩ H = some (.val (.agg vs.toArray) H) := by
    intro H hH
    refine opA_load hx ?_
    simp only [loadA, ht, hs, Heap.cells, hH, if_pos hc, hv, Option.map_some]
  exact WS.val _ hg hn (this h ho) (fun H hH => this H hH) hk

theorem WS.store {ty : TypeId} {x y : Operand} {i off : Nat} {v : Value} {cs cs' : List Value} (hg : gOk ops env g = some true) (hx : evalA G env x = some (.pointer (some ⟨i, off, none⟩))) (hy : evalA G env y = some v)
    (hz : sizeT P ty = some v.cells.size) (ho : h.obj i = some (.cells false cs)) (hf : off + v.cells.size ≤ cs.length) (h1 : v.cells.toList.all (·.oneCell') = true) (hs' : forceL (setMany cs off v.cells.toList) = some cs')
    (hk : K env (h.put i (some (.cells false cs'))) fun _ => True) : WS P G X n false ops ⟨none, .store ty x y, t, p, a, g⟩ env h K F := by
  have hs := forceL_eq hs'
  refine WS.skip hg (opA_store hx hy ?_) hk
  simp only [storeA, hz, if_true, Heap.store, ho]
  rw [if_pos (by simp only [Array.length_toList, h1, Bool.and_true, decide_eq_true_eq]; exact hf), hs]

theorem WS.alloc {e : TypeId} {z : Value} {cs : List Value} (hg : gOk ops env g = some true) (hn : Nat.blt d n = true) (hz : zeroT P e = some z) (hcs' : forceL z.cells.toList = some cs)
    (hk : K (upd env d (.pointer (some ⟨h.next, 0, none⟩))) (h.alloc (.cells false cs)) fun _ => False) : WS P G X n lt ops ⟨some d, .alloc e, t, p, a, g⟩ env h K F :=
  WS.val _ hg hn (by simp only [opA, hz, Option.map_some, forceL_eq hcs']) (fun _ hf => hf.elim) hk

theorem WS.box {e : TypeId} {x : Operand} {v : Value} {cs : List Value} (hg : gOk ops env g = some true) (hn : Nat.blt d n = true) (hx : evalA G env x = some v) (hcs' : forceL v.cells.toList = some cs)
    (hk : K (upd env d (.pointer (some ⟨h.next, 0, none⟩))) (h.alloc (.cells false cs)) fun _ => False) : WS P G X n lt ops ⟨some d, .box e x, t, p, a, g⟩ env h K F :=
  WS.val _ hg hn (by simp only [opA, hx, Option.map_some, forceL_eq hcs']) (fun _ hf => hf.elim) hk

theorem WS.buildSlice {ty e : TypeId} {parts} {ps} {len m : Nat} {z : Value} {cs0 cs : List Value} (hg : gOk ops env g = some true) (hn : Nat.blt d n = true) (hp : evalParts G env parts.toList = some ps) (hu : P.underlying ty = some (.slice e)) (hm : sizeT P e = some m) (hz : zeroT P e = some z)
    (hok : (z.cells.size = m && 0 < m && len * m ≤ 16777216) = true) (hcs0 : fillA (fun i => some (i * m, m)) (zerosA z len) ps = some cs0) (hcs' : forceL cs0 = some cs)
    (hk : K (upd env d (.slice (some ⟨h.next, 0, none⟩) len m)) (h.alloc (.cells false cs)) fun _ => False) : WS P G X n lt ops ⟨some d, .buildSlice ty len parts, t, p, a, g⟩ env h K F :=
  WS.val _ hg hn (by simp only [opA, hp, buildSliceA, hu, hm, hz]; rw [if_pos (by simpa using hok), hcs0, forceL_eq hcs']; rfl) (fun _ hf => hf.elim) hk

theorem WS.conv {ty ty2 : TypeId} {x : Operand} {u v : Value} (S : Heap → Prop) (hg : gOk ops env g = some true) (hn : Nat.blt d n = true) (hx : evalA G env x = some u) (hS : S h) (hv : ∀ H, S H → convertA P ty ty2 u H = some (v, H))
    (hk : K (upd env d v) h S) : WS P G X n lt ops ⟨some d, .convert ty ty2 x, t, p, a, g⟩ env h K F := by
  have : ∀ H, S H → opA P G env ⟨some d, .convert ty ty2 x, t, p, a, g⟩ H = some (.val v H) := fun H hH => by simp only [opA, hx, hv H hH, Option.map_some]
  exact WS.val S hg hn (this h hS) this hk

theorem WS.heapV {op : Op} {v : Value} {h' : Heap} (hg : gOk ops env g = some true) (hn : Nat.blt d n = true) (ho : opA P G env ⟨some d, op, t, p, a, g⟩ h = some (.val v h'))
    (hk : K (upd env d v) h' fun _ => False) : WS P G X n lt ops ⟨some d, op, t, p, a, g⟩ env h K F := WS.val _ hg hn ho (fun _ hf => hf.elim) hk

theorem resultA_nil : resultA P env h [] = some [] := rfl
theorem resultA_tmp {t : Tmp} {l : List ResultVar} {v : Value} {vs : List Value} (hx : env t = some v) (hr : resultA P env h l = some vs) : resultA P env h (.tmp t :: l) = some (v :: vs) := by simp only [resultA, hx, hr]
theorem resultA_cellG {t : Tmp} {ty : TypeId} {l : List ResultVar} {i off m : Nat} {ro : Bool} {cs ws vs : List Value} (hx : env t = some (.pointer (some ⟨i, off, none⟩))) (ht : aggT P ty = some true) (hs : sizeT P ty = some m) (ho : h.obj i = some (.cells ro cs)) (hc : off + m ≤ cs.length)
    (hv : forceL ((cs.drop off).take m) = some ws) (hr : resultA P env h l = some vs) : resultA P env h (.cell t ty :: l) = some (.agg ws.toArray :: vs) := by
  simp only [resultA, hx, hr, loadA, ht, hs, Heap.cells, ho, if_pos hc, forceL_eq hv, Option.map_some]
theorem resultA_cellS {t : Tmp} {ty : TypeId} {l : List ResultVar} {i off : Nat} {ro : Bool} {cs vs : List Value} {v : Value} (hx : env t = some (.pointer (some ⟨i, off, none⟩))) (ht : aggT P ty = some false) (ho : h.obj i = some (.cells ro cs)) (hc : cs[off]? = some v)
    (hr : resultA P env h l = some vs) : resultA P env h (.cell t ty :: l) = some (v :: vs) := by
  simp only [resultA, hx, hr, loadA, ht, Heap.cell, ho, hc, Option.map_some]

theorem WS.callF {f : FuncId} {args tys} {vs : List Value} (hg : gOk ops env g = some true) (hn : Nat.blt d n = true) (ha : evalAll G env args.toList = some vs) (he : ∀ vs, enterA P f vs = some (.enter f vs))
    (hk : WCall P G X f vs h fun r => match r with | .ret v h' => K (upd env d v) h' (fun _ => True) | .panic ch h' => F ch h') : WS P G X n false ops ⟨some d, .call ⟨.value (.func f), args, tys⟩, t, p, a, g⟩ env h K F :=
  WS.enter hg hn (by simp only [opA, callA, ha, evalA, invokeA]; rw [show ((#[] : Array Value).toList ++ vs ++ (#[] : Array Value).toList) = vs by simp, he]) hk

theorem WS.callV {x : Operand} {f : FuncId} {args tys} {fs cs} {vs ws : List Value} (hg : gOk ops env g = some true) (hn : Nat.blt d n = true) (hx : evalA G env x = some (.func (.func f) fs cs)) (ha : evalAll G env args.toList = some vs) (hw : fs.toList ++ vs ++ cs.toList = ws) (he : ∀ vs, enterA P f vs = some (.enter f vs))
    (hk : WCall P G X f ws h fun r => match r with | .ret v h' => K (upd env d v) h' (fun _ => True) | .panic ch h' => F ch h') : WS P G X n false ops ⟨some d, .call ⟨.value x, args, tys⟩, t, p, a, g⟩ env h K F :=
  WS.enter hg hn (by simp only [opA, callA, ha, hx, invokeA]; rw [hw, he]) hk

theorem WS.invoke {x : Operand} {name : String} {f : FuncId} {args tys} {ty : TypeId} {u r : Value} {vs : List Value} (hg : gOk ops env g = some true) (hn : Nat.blt d n = true) (hx : evalA G env x = some (.iface ty u)) (ha : evalAll G env args.toList = some vs) (hm : methodA P ty u name = some (f, r)) (he : ∀ vs, enterA P f vs = some (.enter f vs))
    (hk : WCall P G X f (r :: vs) h fun r => match r with | .ret v h' => K (upd env d v) h' (fun _ => True) | .panic ch h' => F ch h') : WS P G X n false ops ⟨some d, .call ⟨.invoke x name, args, tys⟩, t, p, a, g⟩ env h K F :=
  WS.enter hg hn (by simp only [opA, callA, ha, hx, invokeA, hm, he]) hk

/- Objects of a heap. -/
theorem obj_new {o : AObj} : (h.alloc o).obj h.next = some o := by rw [Heap.alloc_obj, if_pos rfl]
theorem obj_old {i : Nat} {o : AObj} {x : Option AObj} (hne : i ≠ h.next) (ho : h.obj i = x) : (h.alloc o).obj i = x := by rw [Heap.alloc_obj, if_neg hne]; exact ho
theorem obj_put {i : Nat} {o : Option AObj} : (h.put i o).obj i = o := by rw [Heap.put_obj, if_pos rfl]
theorem obj_else {i j : Nat} {o x : Option AObj} (hne : i ≠ j) (ho : h.obj i = x) : (h.put j o).obj i = x := by rw [Heap.put_obj, if_neg hne]; exact ho

/-- The cells of a slice's elements. -/
def SliceAt (h : Heap) (b : Option Addr) (n es size : Nat) (old : List Value) : Prop :=
  (b = none ∧ n = 0 ∧ es = 0 ∧ old = []) ∨ ∃ i off cells, b = some ⟨i, off, none⟩ ∧ es = size ∧ h.obj i = some (.cells false cells) ∧ off + n * size ≤ cells.length ∧ (cells.drop off).take (n * size) = old

theorem appendA_of {ty ty' e : TypeId} {u : TypeDesc} {b : Option Addr} {len es j off m size bytes : Nat} {ro : Bool} {cs old new : List Value} (hu : P.underlying ty = some (.slice e)) (hu' : P.underlying ty' = some u) (hi : ∀ k, u ≠ .int k) (he : elemFits P e = some (size, bytes))
    (hm : 0 < m) (ho : h.obj j = some (.cells ro cs)) (hl : off + m * size ≤ cs.length) (hnew : (cs.drop off).take (m * size) = new) (hr : (len + m) * bytes ≤ room) (h1 : new.all (·.oneCell') = true) (hs : SliceAt h b len es size old) :
    ∃ h', appendA P #[ty, ty'] [.slice b len es, .slice (some ⟨j, off, none⟩) m size] h = some (.slice (some ⟨h.next, 0, none⟩) (len + m) size, h') ∧ h'.next = h.next + 1 ∧ h'.obj h.next = some (.cells false (old ++ new)) ∧
      ∀ i, i < h.next → (∀ off, b ≠ some ⟨i, off, none⟩) → h'.obj i = h.obj i := by
  have ha : appendedV size h (.slice (some ⟨j, off, none⟩) m size) = some (m, new) := by
    simp only [appendedV]
    rw [if_neg (by omega)]
    simp only [if_true, Heap.cells, ho, if_pos hl, hnew, Option.map_some]
  rcases hs with ⟨rfl, rfl, rfl, rfl⟩ | ⟨i, off', cells, rfl, rfl, hob, hle, hold⟩
  · refine ⟨h.alloc (.cells false new), ?_, rfl, by rw [obj_new]; rfl, fun i hlt _ => obj_old (by omega) rfl⟩
    simp only [appendA, List.getElem?_toArray, List.getElem?_cons_zero, List.getElem?_cons_succ, hu, hu', he, ha]
    cases u <;> first | exact (hi _ rfl).elim | (rw [if_neg (by omega), if_pos (by simpa using hr)]; simp)
  · refine ⟨(h.put i none).alloc (.cells false (old ++ new)), ?_, rfl, ?_, fun k hlt hne => ?_⟩
    · simp only [appendA, List.getElem?_toArray, List.getElem?_cons_zero, List.getElem?_cons_succ, hu, hu', he, ha]
      cases u <;> first | exact (hi _ rfl).elim | (rw [if_neg (by omega)]; simp only [decide_true, hr, h1, Bool.and_self, if_true, hob, Heap.cells, if_pos hle, hold, Option.map_some])
    · exact obj_new (h := h.put i none)
    · refine obj_old (h := h.put i none) (by simp only [Heap.put_next]; omega) (obj_else (fun e => ?_) rfl)
      subst e
      exact hne off' rfl

theorem WS.append {ty ty' e : TypeId} {u : TypeDesc} {x y : Operand} {b : Option Addr} {len es j off m size bytes : Nat} {ro : Bool} {cs old new : List Value} (hg : gOk ops env g = some true) (hn : Nat.blt d n = true) (hx : evalA G env x = some (.slice b len es)) (hy : evalA G env y = some (.slice (some ⟨j, off, none⟩) m size))
    (hu : P.underlying ty = some (.slice e)) (hu' : P.underlying ty' = some u) (hi : ∀ k, u ≠ .int k) (he : elemFits P e = some (size, bytes))
    (hm : 0 < m) (ho : h.obj j = some (.cells ro cs)) (hl : off + m * size ≤ cs.length) (hnew' : forceL ((cs.drop off).take (m * size)) = some new) (hr : (len + m) * bytes ≤ room) (h1 : new.all (·.oneCell') = true) (hs : SliceAt h b len es size old)
    (hk : ∀ h', h'.next = h.next + 1 → h'.obj h.next = some (.cells false (old ++ new)) → (∀ i, i < h.next → (∀ off, b ≠ some ⟨i, off, none⟩) → h'.obj i = h.obj i) → K (upd env d (.slice (some ⟨h.next, 0, none⟩) (len + m) size)) h' fun _ => False) :
    WS P G X n lt ops ⟨some d, .call ⟨.builtin .append, #[x, y], #[ty, ty']⟩, t, p, a, g⟩ env h K F := by
  obtain ⟨h', h1', h2, h3, h4⟩ := appendA_of hu hu' hi he hm ho hl (forceL_eq hnew') hr h1 hs
  refine WS.heapV hg hn (v := .slice (some ⟨h.next, 0, none⟩) (len + m) size) (h' := h') ?_ (hk h' h2 h3 h4)
  simp only [opA, callA, evalAll, hx, hy, h1', Option.map_some]

attribute [irreducible] byteN bsub

end
end Go.Am
