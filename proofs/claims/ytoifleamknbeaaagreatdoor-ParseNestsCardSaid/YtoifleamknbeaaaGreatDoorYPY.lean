/- Parse, made quick for the kernel. -/
import Derived.Test.YtoifleamknbeaaaGreatDoorYPYf
open Go Go.Am
namespace Go.Proofs.ZL
set_option maxRecDepth 100000
set_option linter.unusedSimpArgs false
set_option linter.unusedVariables false

def endsQ : List Tok → Bool
  | [] => false
  | t :: _ => endsTok t
theorem endsQ_eq (acc : List Tok) : endsL acc.reverse = endsQ acc := by
  unfold endsL
  cases acc with
  | nil => rfl
  | cons t l => simp [endsQ]

/-- The scan, its tokens the last first. -/
def scanQ : Nat → List UInt8 → List Nat → Nat → List Tok → Option Out
  | 0, _, _, _, _ => none
  | _ + 1, [], _, k, acc => some ⟨.ok, k, ⟨6, (⟨#[]⟩ : ByteArray), 0, k⟩ :: (if endsQ acc then ⟨5, (⟨#[59]⟩ : ByteArray), 1, k⟩ :: acc else acc)⟩
  | m + 1, c :: r, rn, k, acc =>
    if Nat.beq (rn.headD 0) 10 then openN (k + 1) fun k' => (if endsQ acc then scanQ m r rn.tail k' (⟨5, (⟨#[59]⟩ : ByteArray), 1, k⟩ :: acc) else scanQ m r rn.tail k' acc)
    else match nextK (c :: r) rn k with
      | ⟨.ok, p, []⟩ => openN p fun p => dropK (p - k) (c :: r) fun r' => dropK (p - k) rn fun rn' => scanQ m r' rn' p acc
      | ⟨.ok, p, t :: _⟩ => openN p fun p => dropK (p - k) (c :: r) fun r' => dropK (p - k) rn fun rn' => openT t fun t => scanQ m r' rn' p (t :: acc)
      | ⟨e, p, _⟩ => some ⟨e, p, acc⟩

theorem textL_nil (k : Nat) (l : List Tok) : ∀ (r : List UInt8) (i : Nat) (out : List Int), textL k l r i out = ⟨(textL k [] r i out).err, (textL k [] r i out).pos, l ++ (textL k [] r i out).list⟩ ∧ (textL k [] r i out).list.length ≤ 1
  | [], i, out => by simp [textL]
  | [c], i, out => by
    unfold textL
    repeat (first | split | (exact ⟨by simp, by simp⟩))
  | c :: d :: r, i, out => by
    unfold textL
    have h1 := textL_nil k l r
    have h2 := textL_nil k l (d :: r)
    repeat (first | split | exact h1 _ _ | exact h2 _ _ | (exact ⟨by simp, by simp⟩))
theorem nextL_nil {r : List UInt8} (hr : hd r ≠ 10) (k : Nat) (l : List Tok) : nextL r k l = ⟨(nextL r k []).err, (nextL r k []).pos, l ++ (nextL r k []).list⟩ ∧ (nextL r k []).list.length ≤ 1 := by
  unfold nextL nameL numberL
  have h1 := textL_nil k l r.tail (k + 1) []
  rw [if_neg hr, if_neg hr]
  repeat (first | split | exact h1 | (exact ⟨by simp, by simp⟩))

theorem scanQ_scans : ∀ (m : Nat) (r : List UInt8) (k : Nat) (acc : List Tok) (o : Out), scanQ m r (r.map UInt8.toNat) k acc = some o → ∃ o', Scans r k acc.reverse o' ∧ o'.err = o.err ∧ (o.err = .ok → o'.list = o.list.reverse)
  | 0, _, _, _, _, h => by cases h
  | m + 1, [], k, acc, o, h => by
    cases h
    refine ⟨_, Scans.done k acc.reverse, rfl, fun _ => ?_⟩
    unfold lineL
    rw [endsQ_eq]
    split <;> simp
  | m + 1, c :: r, k, acc, o, h => by
    unfold scanQ at h
    simp only [openN_eq, dropK_eq, openT_eq, List.map_cons, List.headD_cons, List.tail_cons] at h
    by_cases hc : (c.toNat : Int) = 10
    · rw [if_pos (by rw [Nat.beq_eq]; omega)] at h
      have hn : nextL (c :: r) k acc.reverse = ⟨.ok, k + 1, lineL k acc.reverse⟩ := by
        unfold nextL
        have h0 : hd (c :: r) = 10 := hc
        rw [if_neg (by omega), if_pos h0]
      have key : ∀ acc', lineL k acc.reverse = acc'.reverse → scanQ m r (r.map UInt8.toNat) (k + 1) acc' = some o → ∃ o', Scans (c :: r) k acc.reverse o' ∧ o'.err = o.err ∧ (o.err = .ok → o'.list = o.list.reverse) := by
        intro acc' ha hs
        obtain ⟨o', h1, h2⟩ := scanQ_scans m r (k + 1) acc' o hs
        exact ⟨o', Scans.step 1 acc'.reverse (by omega) (by simp) (by rw [hn, ha]) h1, h2⟩
      split at h
      · rename_i he
        exact key _ (by unfold lineL; rw [endsQ_eq, if_pos he]; simp) h
      · rename_i he
        exact key _ (by unfold lineL; rw [endsQ_eq, if_neg he]) h
    · rw [if_neg (by rw [Nat.beq_eq]; omega)] at h
      have h0 : hd (c :: r) ≠ 10 := hc
      have hk := nextK_eq (r := c :: r) (by simp) h0 k
      rw [List.map_cons] at hk
      rw [hk] at h
      obtain ⟨hn, hl⟩ := nextL_nil h0 k acc.reverse
      have hok : (nextL (c :: r) k acc.reverse).err.isOk = true → ∃ n l', 0 < n ∧ n ≤ (c :: r).length ∧ nextL (c :: r) k acc.reverse = ⟨.ok, k + n, l'⟩ ∧ l'.length ≤ acc.reverse.length + 1 := nextL_ok (by simp)
      rw [hn] at hok
      split at h
      · rename_i p hp
        rw [hp] at hok hn
        obtain ⟨n, l', h1, h2, h3, _⟩ := hok rfl
        have hp2 : p = k + n := congrArg Out.pos h3
        subst hp2
        rw [show k + n - k = n by omega, ← List.map_cons, ← List.map_drop] at h
        obtain ⟨o', h4, h5⟩ := scanQ_scans m _ _ _ _ h
        exact ⟨o', Scans.step n acc.reverse h1 h2 (by rw [hn]; simp) h4, h5⟩
      · rename_i p t l2 hp
        rw [hp] at hok hn hl
        obtain rfl : l2 = [] := by cases l2 with
          | nil => rfl
          | cons a b => simp at hl
        obtain ⟨n, l', h1, h2, h3, _⟩ := hok rfl
        have hp2 : p = k + n := congrArg Out.pos h3
        subst hp2
        rw [show k + n - k = n by omega, ← List.map_cons, ← List.map_drop] at h
        obtain ⟨o', h4, h5⟩ := scanQ_scans m _ _ _ _ h
        exact ⟨o', Scans.step n (t :: acc).reverse h1 h2 (by rw [hn]; simp) h4, h5⟩
      · rename_i e p l2 hne1 hne2 hp
        cases h
        have he : e.isOk = false := by
          cases e with
          | ok => cases l2 with
            | nil => exact (hne1 rfl rfl).elim
            | cons a b => exact (hne2 a b rfl rfl).elim
          | _ => rfl
        refine ⟨_, Scans.fail (by simp) (by rw [hn, hp]; exact he), by rw [hn, hp], fun h => ?_⟩
        simp only at h
        rw [h] at he; cases he

def scanK (src : ByteArray) : Option ScanR :=
  if 8192 < src.size then some ⟨[], 1, 8192⟩
  else match openL (γ := Unit) openN (src.data.toList.map UInt8.toNat) fun rn => scanQ (src.size + 1) src.data.toList rn 0 [] with
    | some ⟨.ok, _, l⟩ => (match deepGo l.reverse 0 with
      | some p => some ⟨[], 3, p⟩
      | none => some ⟨l.reverse, 0, 0⟩)
    | some ⟨e, _, _⟩ => some ⟨[], 2, e.pos⟩
    | none => none
theorem scanK_eq {src : ByteArray} {r : ScanR} (h : scanK src = some r) : scanS src = r := by
  unfold scanK at h
  unfold scanS
  split at h
  · rename_i h1; rw [if_pos h1]; exact Option.some.inj h
  · rename_i h1
    rw [if_neg h1]
    rw [openL_eq openN_eq] at h
    split at h
    · rename_i p l hq
      obtain ⟨o', h2, h3, h4⟩ := scanQ_scans _ _ _ _ _ hq
      have ha := h2.allS
      rw [ha]
      simp only [h3, SErr.isOk, if_true]
      rw [h4 rfl]
      split at h
      · rename_i q hd; simp only [hd]; exact Option.some.inj h
      · rename_i hd; simp only [hd]; exact Option.some.inj h
    · rename_i e p l hne hq
      obtain ⟨o', h2, h3, h4⟩ := scanQ_scans _ _ _ _ _ hq
      have ha := h2.allS
      rw [ha, h3]
      cases e with
      | ok => exact (hne rfl).elim
      | _ => exact Option.some.inj h
    · cases h

/-- Parse, quick. -/
def parseK (n : Nat) (src : ByteArray) : Option (Nd × Int × Int) :=
  openB src fun src => match scanK src with
  | some ⟨toks, stage, pos⟩ => if stage ≠ 0 then some (zeroN, stage, pos) else openL (γ := Unit) openT toks fun L => match fileF n (recN n) L false ⟨0, false⟩ with
    | .ok t _ => some (t, 0, 0)
    | .bad p => some (zeroN, 4, p)
    | .out => none
  | none => none
theorem parseK_eq {n : Nat} {src : ByteArray} {x : Nd × Int × Int} (h : parseK n src = some x) : parseN n src = some x := by
  unfold parseK at h
  rw [openB_eq] at h
  split at h
  · rename_i toks stage pos hs
    unfold parseN
    rw [scanK_eq hs]
    simp only [openL_eq openT_eq] at h
    exact h
  · cases h

end Go.Proofs.ZL
