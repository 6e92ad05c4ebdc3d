/- Lists of kids (the print seat's part of PX). USEEQ -/
import Derived.Test.YtpdkdgfknanipaaGreatDoorYP6
open Go Go.Am
namespace Go.Proofs.ZL
set_option maxRecDepth 100000
set_option linter.unusedSimpArgs false
set_option linter.unusedVariables false
set_option maxHeartbeats 4000000
variable {h : aA} {Q : bR → Prop} {L : List Tok} {p : Nat} {hd : Bool} {src : ByteArray}

theorem NV.nD {S : Nat → Prop} {b : Option Addr} {n es : Nat} {t : Nd} (hv : NV h S (aG t b n es) t) : n = t.kids.length := by
 generalize hc : aG t b n es = vs at hv
 cases hv with
 | leaf kind text num pos cD ref => simp only [aG, Nd.kind, Nd.text, Nd.num, Nd.pos, Nd.cD, Nd.ref, List.cons.injEq, Value.slice.injEq] at hc; obtain ⟨_, _, _, _, _, _, ⟨_, rfl, _⟩, _⟩ := hc; rfl
 | node kind text num pos cD ref kids i cells _ _ _ _ _ => simp only [aG, Nd.kind, Nd.text, Nd.num, Nd.pos, Nd.cD, Nd.ref, List.cons.injEq, Value.slice.injEq] at hc; obtain ⟨_, _, _, _, _, _, ⟨_, rfl, _⟩, _⟩ := hc; rfl

theorem NV.aM5 {S : Nat → Prop} {b : Option Addr} {n es : Nat} {t : Nd} (hv : NV h S (aG t b n es) t) (hne : t.kids ≠ []) : ∃ i cells, b = some ⟨i, 0, Option.none⟩ ∧ n = t.kids.length ∧ es = 7 ∧ S i ∧ i < h.next ∧ h.obj i = some (.cells false cells) ∧ t.kids.length * 7 ≤ cells.length ∧
  ∀ j u, t.kids[j]? = some u → NV h S ((cells.drop (j * 7)).take 7) u := by
 generalize hc : aG t b n es = vs at hv
 cases hv with
 | leaf kind text num pos cD ref => exact (hne rfl).elim
 | node kind text num pos cD ref kids i cells h1 h2 h3 h4 h5 =>
  simp only [aG, Nd.kind, Nd.text, Nd.num, Nd.pos, Nd.cD, Nd.ref, List.cons.injEq, Value.slice.injEq] at hc
  obtain ⟨_, _, _, _, _, _, ⟨rfl, rfl, rfl⟩, _⟩ := hc
  exact ⟨i, cells, rfl, rfl, rfl, h1, h2, h3, h4, h5⟩

end Go.Proofs.ZL
