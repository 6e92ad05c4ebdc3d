/- The library's functions that are taken as they are, and call: they are sound. -/
import Derived.Test.YtpdkdgfknanipaaGreatDoorYXE
import Derived.Test.YtpdkdgfknanipaaGreatDoorYXAf
open Go Go.Am Go.RowKit
namespace Go.Proofs.ZL
set_option maxRecDepth 100000
set_option maxHeartbeats 4000000
set_option linter.unusedSimpArgs false
set_option linter.unusedVariables false

section
variable {B : Nat} {w0 : World} {ρ : Am.Ren} {h : aA} {w : World} {args : List Value} {args' : Array Value} {r : bR} {C : bK}

theorem aP3 {α : Type} {c : Array α} (h : c.size = 7) : ∃ a1 a2 a3 a4 a5 a6 a7, c = #[a1, a2, a3, a4, a5, a6, a7] := by
 obtain ⟨l⟩ := c
 rcases l with _ | ⟨a1, _ | ⟨a2, _ | ⟨a3, _ | ⟨a4, _ | ⟨a5, _ | ⟨a6, _ | ⟨a7, _ | ⟨a8, l⟩⟩⟩⟩⟩⟩⟩⟩ <;> simp at h
 exact ⟨a1, a2, a3, a4, a5, a6, a7, rfl⟩

theorem aC0 (SC : hZ Tryz.prog G B w0 C) (hr : qU C args h = some r) (R : Rel G B w0 ρ h w) (hargs : bP ρ args args'.toList) : Calls Tryz.prog 10 args' w (iP G B w0 ρ h r) := by
 unfold qU at hr
 split at hr
 case h_2 => cases hr
 rename_i cs
 split at hr
 case isFalse => cases hr
 rename_i hsz
 split at hr
 case h_2 => cases hr
 rename_i v1 h3 hC1
 split at hr
 case h_2 => cases hr
 rename_i v h4 hC2
 cases hr
 obtain ⟨p', l1, ha, hp', hl⟩ := hargs.cons_inv
 obtain rfl := hl.dN
 obtain rfl : args' = #[p'] := sD ha
 cases hp' with
 | @agg _ cs' k1 k2 =>
 have hcs := bA.fI.1 (bA.agg k1 k2)
 have R1 := (iT (P := Tryz.prog) R 25 (cs' := cs') hcs).2
 have hz : bP (ρ.bL h.next (w.heap.size, 0, cs'.size)) [.pointer none, .slice none 0 0, .int .i64 0] [.pointer none, .slice none 0 0, .int .i64 0] := .cons .nilPtr (.cons .gQ (.cons (.int _ _) (bP.nil _)))
 have R2 := (iT (P := Tryz.prog) R1 51 (cs' := #[.pointer none, .slice none 0 0, .int .i64 0]) hz).2
 have R3 := R2.note (i := h.next + 1) (t := some 51) fun t' ht => w4 (heap_alloc_new _ _) t' ht
 have x3 : Ext ρ h ((ρ.bL h.next (w.heap.size, 0, cs'.size)).bL (h.next + 1) ((w.alloc (.cells cs' 25)).heap.size, 0, 3)) (((h.alloc (.cells false cs.toList)).alloc (.cells false [.pointer none, .slice none 0 0, .int .i64 0])).note (h.next + 1) (some 51)) :=
  (Ext.trans (Ext.bL ρ h _ _) (Ext.bL _ (h.alloc (.cells false cs.toList)) _ _)).note _ _
 have hp : bA ((ρ.bL h.next (w.heap.size, 0, cs'.size)).bL (h.next + 1) ((w.alloc (.cells cs' 25)).heap.size, 0, 3)) (.pointer (some ⟨h.next + 1, 0, none⟩)) (.pointer (some ⟨(w.alloc (.cells cs' 25)).heap.size, 0, none⟩)) := bA.aDe _ _ _
 have call1 := SC _ _ _ _ hC1 _ _ #[.pointer (some ⟨(w.alloc (.cells cs' 25)).heap.size, 0, none⟩), .agg cs'] R3 (.cons hp (.cons ((bA.agg k1 k2).mono (x3.le R)) (bP.nil _)))
 have hws : (w.alloc (.cells cs' 25)).heap.size = w.heap.size + 1 := by simp
 rw [hws] at call1 x3 hp
 obtain ⟨a1, a2, a3, a4, a5, a6, a7, rfl⟩ := aP3 (k1.symm.trans hsz)
 refine (ZLF.aHi a1 a2 a3 a4 a5 a6 a7 w (fun w' => ∃ ρ', Ext ρ h ρ' h3 ∧ Rel G B w0 ρ' h3 w' ∧ bA ρ' (.pointer (some ⟨h.next + 1, 0, none⟩)) (.pointer (some ⟨w.heap.size + 1, 0, none⟩))) (fun v2 w' => ∃ ρ', Ext ρ h ρ' h4 ∧ Rel G B w0 ρ' h4 w' ∧ bA ρ' v v2) (call1.mono ?_) ?_).mono ?_
 ·intro e w' he
  cases e with
  | returned v' =>
   obtain ⟨ρ', x, R4, _⟩ := he
   exact ⟨⟨_, rfl⟩, ρ', x3.trans x, R4, hp.mono (x.le (by rw [← hws]; exact R3))⟩
  | _ => exact he.elim
 ·rintro w' ⟨ρ', x, R4, hp4⟩
  refine (SC _ _ _ _ hC2 _ _ #[.pointer (some ⟨w.heap.size + 1, 0, none⟩)] R4 (.cons hp4 (bP.nil _))).mono ?_
  intro e w2 he
  cases e with
  | returned v2 =>
   obtain ⟨ρ2, x2, R5, hv⟩ := he
   exact ⟨v2, rfl, ρ2, x.trans x2, R5, hv⟩
  | _ => exact he.elim
 ·rintro e w' ⟨v2, rfl, ρ', x, R5, hv⟩
  exact ⟨ρ', x, R5, hv⟩

end

theorem aMy {B : Nat} {w0 : World} (hm : Tryz.prog.follows .mixedOrders = true) (hB : 0 < B) (hg : w0.cell? ⟨0, 0, none⟩ = some (.iface 116 (.agg #[.pointer (some ⟨7, 56, none⟩)])))
  (ht : ∀ w, Below B w0 w → Lib.TabIs Tryz.prog w "internal/strconv.uint64pow10" .u64 Lib.pow10Tab) : aGa Tryz.prog G B w0 X where
 sound := by
  intro f o hf C SC args h r hr ρ w args' R hargs
  unfold X at hf
  repeat' split at hf
  all_goals (first | (cases hf; done) | skip)
  ·rename_i hfe; subst hfe; cases hf; exact aGh hB hg hr R hargs
  ·rename_i hfe; subst hfe; cases hf; exact zT hm SC hr R hargs
  ·rename_i hfe; subst hfe; cases hf; exact aCv hr R hargs
  ·rename_i hfe; subst hfe; cases hf; exact aFz hr R hargs
  ·rename_i hfe; subst hfe; cases hf; exact aC7 ht hr R hargs
  ·rename_i hfe; subst hfe; cases hf; exact aFv hr R hargs
  ·rename_i hfe; subst hfe; cases hf; exact aAt hr R hargs
  ·rename_i hfe; subst hfe; cases hf; exact aC0 SC hr R hargs
  ·rename_i hfe; subst hfe; cases hf; exact aDf SC hr R hargs

end Go.Proofs.ZL
