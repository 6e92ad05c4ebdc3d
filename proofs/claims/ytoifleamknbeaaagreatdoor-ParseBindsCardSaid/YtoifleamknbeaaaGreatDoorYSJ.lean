/- Parse, for every source: its tree, or the fault and its place. -/
import Derived.Test.YtoifleamknbeaaaGreatDoorYSI
open Go Go.Am
namespace Go.Proofs.ZL
set_option linter.unusedSimpArgs false
set_option linter.unusedVariables false

theorem Small.mono {n m : Nat} (h : n ≤ m) {t : Nd} (s : Small n t) : Small m t := by
 induction s with
 | mk kind text num pos typ ref kids h1 h2 ih => exact .mk _ _ _ _ _ _ _ (by omega) ih

def parseT (src : ByteArray) : Nd × Int × Int := (parseN 200000 src).getD (zeroN, 0, 0)

theorem parseN_some (src : ByteArray) : parseN 200000 src = some (parseT src) ∧ Small 20000 (parseT src).1 := by
 have hz : Small 20000 zeroN := .of (.nil _) (by simp) _ _ _ _ _ _
 unfold parseT parseN
 split
 ·exact ⟨rfl, hz⟩
 ·rename_i h0
  obtain ⟨wf, _, _⟩ := scan_wf (src := src) (by simpa using h0)
  have hl := wf.size
  generalize (scanS src).toks = L at *
  have g : Alike (fun _ _ => True) L L 0 0 0 := ⟨trivial, fun p => ⟨p, trivial⟩, fun i _ _ => ⟨(tokAt L i).pos, trivial, by rw [Nat.zero_add]⟩⟩
  have h := file_b g (m := 200000) false ⟨0, false⟩ (Nat.zero_le _)
  cases hr : fileF 200000 (recN 200000) L false ⟨0, false⟩ with
  | ok t s => rw [hr] at h; exact ⟨rfl, h.2.2.1.mono (by omega)⟩
  | bad i => exact ⟨rfl, hz⟩
  | out => rw [hr] at h; exact (h (by omega)).elim

theorem parse_w {src : ByteArray} {h : Heap} {Q : ARes → Prop}
  (hq : ∀ h' b m es, Gr h h' → NV h' (fun j => h.next ≤ j) (ncells (parseT src).1 b m es) (parseT src).1 → Q (.ret (.tuple #[.agg (ncells (parseT src).1 b m es).toArray, .agg #[.int .i64 (parseT src).2.1, .int .i64 (parseT src).2.2]]) h')) : WCall Tryz.prog G X 12 [.string src] h Q :=
 Parse_w (n := 200000) (by omega) (parseN_some src).1 hq

end Go.Proofs.ZL
