/- ParseNests: its sources, and what is asked of them. -/
import Derived.Test.YtoifleamknbeaaaGreatDoorYPY
open Go Go.Am
namespace Go.Proofs.ZL
set_option maxRecDepth 100000

def opnL : List ByteArray := [(⟨#[123, 10]⟩ : ByteArray), (⟨#[120, 32, 61, 32, 120, 32, 43, 32, 40]⟩ : ByteArray), (⟨#[102, 40]⟩ : ByteArray), (⟨#[105, 102, 32, 120, 32, 123, 10]⟩ : ByteArray), (⟨#[115, 119, 105, 116, 99, 104, 32, 123, 32, 99, 97, 115, 101, 32, 120, 58, 32]⟩ : ByteArray)]
def shutL : List ByteArray := [(⟨#[125, 10]⟩ : ByteArray), (⟨#[41]⟩ : ByteArray), (⟨#[41]⟩ : ByteArray), (⟨#[125, 10]⟩ : ByteArray), (⟨#[125, 10]⟩ : ByteArray)]
def wrapS (a b : ByteArray) (s : ByteArray) : Nat → ByteArray
  | 0 => s
  | n + 1 => a ++ wrapS a b s n ++ b
def nestT (k d : Nat) : ByteArray :=
  if k = 1 then (⟨#[120, 32, 61, 32]⟩ : ByteArray) ++ wrapS (⟨#[40]⟩ : ByteArray) (⟨#[41]⟩ : ByteArray) (⟨#[120]⟩ : ByteArray) d ++ (⟨#[10]⟩ : ByteArray)
  else if k = 2 then (⟨#[120, 32, 61, 32]⟩ : ByteArray) ++ wrapS (opnL.getD k .empty) (shutL.getD k .empty) (⟨#[120]⟩ : ByteArray) d ++ (⟨#[10]⟩ : ByteArray)
  else wrapS (opnL.getD k .empty) (shutL.getD k .empty) .empty d
/-- What the law asks of a source. -/
def nestB (k d : Nat) : Bool := match parseK 300 ((⟨#[102, 117, 110, 99, 32, 102, 40, 41, 32, 123, 10]⟩ : ByteArray) ++ nestT k d ++ (⟨#[125, 10]⟩ : ByteArray)) with
  | some (_, st, p) => if 40 < d + 1 then decide (st = 3) else decide (st = 0 ∧ p = 0 ∧ True)
  | none => false

end Go.Proofs.ZL
