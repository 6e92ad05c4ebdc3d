/- ParseHeads: its table. -/
import Derived.Test.YtoifleamknbeaaaGreatDoorYPX
open Go Go.Am
namespace Go.Proofs.ZL
set_option maxRecDepth 100000
set_option linter.unusedSimpArgs false
set_option linter.unusedVariables false
set_option maxHeartbeats 1000000

/-- A text's first bytes, each '#' replaced. -/
def replS (x e : ByteArray) : Nat → ByteArray
  | 0 => .empty
  | i + 1 => replS x e i ++ (if byteN x (i : Int) = 35 then e else strOf [byteN x (i : Int)])
theorem replS_size (x e : ByteArray) : ∀ i, (replS x e i).size ≤ i * (e.size + 1)
  | 0 => by simp [replS]
  | i + 1 => by
    have ih := replS_size x e i
    unfold replS
    rw [ByteArray.size_append, Nat.succ_mul]
    split
    · omega
    · have : (strOf [byteN x (i : Int)]).size = 1 := rfl
      omega

def headL : List ByteArray := [(⟨#[105, 102, 32, 35, 32, 123, 10, 125]⟩ : ByteArray), (⟨#[102, 111, 114, 32, 35, 32, 123, 10, 125]⟩ : ByteArray), (⟨#[115, 119, 105, 116, 99, 104, 32, 35, 32, 123, 10, 125]⟩ : ByteArray), (⟨#[102, 111, 114, 32, 120, 32, 58, 61, 32, 35, 59, 32, 120, 59, 32, 120, 32, 61, 32, 35, 32, 123, 10, 125]⟩ : ByteArray)]
def formL : List ByteArray := [(⟨#[38, 84, 123, 125]⟩ : ByteArray), (⟨#[91, 93, 105, 110, 116, 123, 125]⟩ : ByteArray), (⟨#[40, 38, 84, 123, 125, 41]⟩ : ByteArray), (⟨#[102, 40, 91, 93, 105, 110, 116, 123, 125, 41]⟩ : ByteArray), (⟨#[97, 91, 108, 101, 110, 40, 91, 93, 105, 110, 116, 123, 125, 41, 93]⟩ : ByteArray), (⟨#[102, 117, 110, 99, 40, 41, 32, 42, 84, 32, 123, 10, 114, 101, 116, 117, 114, 110, 32, 38, 84, 123, 125, 10, 125, 40, 41]⟩ : ByteArray)]
theorem list_at {l : List ByteArray} {k : Int} (h : 0 ≤ k ∧ k < l.length) : (l.map Value.string)[0 + k.toNat * 1]? = some (.string (l.getD k.toNat .empty)) := by
  rw [List.getElem?_map, show 0 + k.toNat * 1 = k.toNat by omega, List.getD_eq_getElem?_getD, List.getElem?_eq_getElem (show k.toNat < l.length by omega)]
  rfl
theorem getD_size {l : List ByteArray} {n : Nat} (hl : l.all (fun x => decide (x.size ≤ n)) = true) (k : Nat) : (l.getD k .empty).size ≤ n := by
  rw [List.getD_eq_getElem?_getD]
  cases hk : l[k]? with
  | none => simp
  | some x =>
    have := List.all_eq_true.1 hl x (List.mem_of_getElem? hk)
    simpa using this

def headsB (a b : Nat) : Bool :=
  (fineN 100 ((⟨#[102, 117, 110, 99, 32, 102, 40, 41, 32, 123, 10]⟩ : ByteArray) ++ replS (headL.getD a .empty) (formL.getD b .empty) (headL.getD a .empty).size ++ (⟨#[10, 125, 10]⟩ : ByteArray)) == some (decide (2 ≤ b))) && (fineN 100 ((⟨#[102, 117, 110, 99, 32, 102, 40, 41, 32, 123, 10, 120, 32, 61, 32]⟩ : ByteArray) ++ formL.getD b .empty ++ (⟨#[10, 125, 10]⟩ : ByteArray)) == some true)
theorem heads_tab : (List.range 4).all (fun a => (List.range 6).all fun b => headsB a b) = true := by decide +kernel

end Go.Proofs.ZL
