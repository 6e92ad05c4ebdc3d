/- ParseStmts: its table. -/
import Derived.Test.YtoifleamknbeaaaGreatDoorYMHt
open Go Go.Am
namespace Go.Proofs.ZL
set_option maxRecDepth 100000
set_option linter.unusedSimpArgs false
set_option linter.unusedVariables false
set_option maxHeartbeats 1000000

def expL : List ByteArray := [(⟨#[120]⟩ : ByteArray), (⟨#[97, 91, 49, 93]⟩ : ByteArray), (⟨#[112, 46, 102]⟩ : ByteArray), (⟨#[102, 40, 41]⟩ : ByteArray), (⟨#[40, 120, 41]⟩ : ByteArray), (⟨#[40, 102, 40, 41, 41]⟩ : ByteArray), (⟨#[97, 91, 49, 58, 93]⟩ : ByteArray), (⟨#[108, 101, 110, 40, 97, 41]⟩ : ByteArray), (⟨#[109, 97, 107, 101, 40, 91, 93, 105, 110, 116, 44, 32, 49, 41]⟩ : ByteArray), (⟨#[49]⟩ : ByteArray), (⟨#[97, 91, 49, 93, 40, 50, 41]⟩ : ByteArray)]
def wayL : List ByteArray := [(⟨#[35]⟩ : ByteArray), (⟨#[35, 32, 61, 32, 49]⟩ : ByteArray), (⟨#[35, 43, 43]⟩ : ByteArray), (⟨#[103, 111, 32, 35]⟩ : ByteArray), (⟨#[100, 101, 102, 101, 114, 32, 35]⟩ : ByteArray), (⟨#[35, 32, 43, 61, 32, 35]⟩ : ByteArray)]
def targetB (e : Nat) : Bool := decide (e ≤ 2)
def callB (e : Nat) : Bool := decide (e = 3) || decide (e = 7) || decide (e = 10)
def mustB (e w : Nat) : Bool := [callB e, targetB e, targetB e, callB e, callB e, targetB e].getD w false
def stmtsB (e w : Nat) : Bool :=
  (fineN 100 ((⟨#[102, 117, 110, 99, 32, 102, 40, 41, 32, 123, 10]⟩ : ByteArray) ++ replS (wayL.getD w .empty) (expL.getD e .empty) (wayL.getD w .empty).size ++ (⟨#[10, 125, 10]⟩ : ByteArray)) == some (mustB e w)) && (fineN 100 ((⟨#[102, 117, 110, 99, 32, 102, 40, 41, 32, 123, 10, 120, 32, 61, 32]⟩ : ByteArray) ++ expL.getD e .empty ++ (⟨#[10, 125, 10]⟩ : ByteArray)) == some true) &&
    (fineN 100 ((⟨#[102, 117, 110, 99, 32, 102, 40, 41, 32, 123, 10]⟩ : ByteArray) ++ expL.getD e .empty ++ (⟨#[32, 60, 45, 32, 49, 10, 125, 10]⟩ : ByteArray)) == some true)
theorem stmts_tab : (List.range 11).all (fun e => (List.range 6).all fun w => stmtsB e w) = true := by decide +kernel

end Go.Proofs.ZL
