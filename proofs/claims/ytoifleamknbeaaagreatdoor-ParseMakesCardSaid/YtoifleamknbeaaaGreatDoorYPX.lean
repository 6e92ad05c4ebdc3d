/- The parse laws: what they share. USEEQ -/
import Derived.Test.YtoifleamknbeaaaGreatDoorYP6
open Go Go.Am
namespace Go.Proofs.ZL
set_option maxRecDepth 100000
set_option linter.unusedSimpArgs false
set_option linter.unusedVariables false
set_option maxHeartbeats 1000000
variable {h : aE} {Q : bW → Prop} {L : List Tok} {p : Nat} {hd : Bool} {src : ByteArray}

theorem NV.aMa {S : Nat → Prop} {b : Option Addr} {n es : Nat} {t : Nd} (hv : NV h S (aH t b n es) t) : n = t.kids.length := by
 generalize hc : aH t b n es = vs at hv
 cases hv with
 | leaf kind text num pos cW ref => simp only [aH, Nd.kind, Nd.text, Nd.num, Nd.pos, Nd.cW, Nd.ref, List.cons.injEq, Value.slice.injEq] at hc; obtain ⟨_, _, _, _, _, _, ⟨_, rfl, _⟩, _⟩ := hc; rfl
 | node kind text num pos cW ref kids i cells _ _ _ _ _ => simp only [aH, Nd.kind, Nd.text, Nd.num, Nd.pos, Nd.cW, Nd.ref, List.cons.injEq, Value.slice.injEq] at hc; obtain ⟨_, _, _, _, _, _, ⟨_, rfl, _⟩, _⟩ := hc; rfl

theorem NV.aF9 {S : Nat → Prop} {b : Option Addr} {n es : Nat} {t : Nd} (hv : NV h S (aH t b n es) t) (hne : t.kids ≠ []) : ∃ i cells, b = some ⟨i, 0, Option.none⟩ ∧ n = t.kids.length ∧ es = 7 ∧ S i ∧ i < h.next ∧ h.obj i = some (.cells false cells) ∧ t.kids.length * 7 ≤ cells.length ∧
  ∀ j u, t.kids[j]? = some u → NV h S ((cells.drop (j * 7)).take 7) u := by
 generalize hc : aH t b n es = vs at hv
 cases hv with
 | leaf kind text num pos cW ref => exact (hne rfl).elim
 | node kind text num pos cW ref kids i cells h1 h2 h3 h4 h5 =>
  simp only [aH, Nd.kind, Nd.text, Nd.num, Nd.pos, Nd.cW, Nd.ref, List.cons.injEq, Value.slice.injEq] at hc
  obtain ⟨_, _, _, _, _, _, ⟨rfl, rfl, rfl⟩, _⟩ := hc
  exact ⟨i, cells, rfl, rfl, rfl, h1, h2, h3, h4, h5⟩

theorem NV.aMh {S : Nat → Prop} {b : Option Addr} {n es : Nat} {k : Int} {x : ByteArray} {a p : Int} {y : ByteArray} {r : Int} {c : Nd} (hv : NV h S (aH (.mk k x a p y r [c]) b n es) (.mk k x a p y r [c])) :
  ∃ i b' n' es' z, b = some ⟨i, 0, Option.none⟩ ∧ n = 1 ∧ es = 7 ∧ S i ∧ i < h.next ∧ h.obj i = some (.cells false (aH c b' n' es' ++ z)) ∧ NV h S (aH c b' n' es') c := by
 obtain ⟨i, cells, h1, h2, h3, h4, h5, h6, h7, h8⟩ := hv.aF9 (by simp [Nd.kids])
 have h9 := h8 0 c rfl
 simp only [Nd.kids, List.length_singleton] at h7
 rw [Nat.zero_mul, List.drop_zero] at h9
 obtain ⟨b', n', es', e9⟩ := h9.cells
 rw [e9] at h9
 exact ⟨i, b', n', es', cells.drop 7, h1, h2, h3, h4, h5, by rw [← e9, List.take_append_drop]; exact h6, h9⟩

def aB4 (n : Nat) : Bool :=
  (match nJ n ⟨#[102, 117, 110, 99, 32, 109, 97, 105, 110, 40, 41, 32, 123, 32, 120, 32, 58, 61, 32, 49, 32, 125]⟩ with
   | some (.mk k _ _ _ _ _ [.mk _ x _ _ _ _ ks], st, p) => decide (st = 0 ∧ p = 0 ∧ True) && decide (k = 1) && decide (x = ⟨#[109, 97, 105, 110]⟩) && decide (ks.length = 3)
   | _ => false) &&
  (match nJ n ⟨#[102, 117, 110, 99, 32, 102, 40, 41, 32, 123, 32, 97, 32, 43, 32, 98, 32, 125]⟩ with
   | some (_, st, p) => decide (st = 4 ∧ p = 13 ∧ True)
   | _ => false)

theorem xD : aB4 60 = true := by decide +kernel

theorem aEp (hq : ∀ h', Gr h h' → Q (.ret (.bool true) h')) : aP Tryz.prog G X 11 [] h Q := by
 have ha := xD
 unfold aB4 at ha
 rw [Bool.and_eq_true] at ha
 obtain ⟨ha1, ha2⟩ := ha
 split at ha1
 case h_2 => cases ha1
 rename_i k a1 a2 a3 a4 a5 b0 x b1 b2 b3 b4 ks st p hp1
 split at ha2
 case h_2 => cases ha2
 rename_i t2 st2 p2 hp2
 simp only [Bool.and_eq_true, decide_eq_true_eq] at ha1 ha2
 obtain ⟨⟨⟨⟨rfl, rfl, _⟩, rfl⟩, rfl⟩, hks⟩ := ha1
 obtain ⟨rfl, rfl, _⟩ := ha2
 refine Wk Tryz.func11 Tryz.ntmps11 (w:=QN (Mb (w:=QO (MJ aKm (w:=xL (n := 60) (by omega) hp1 fun h1 c1 m1 es1 g1 kv1 => ?_)))))
 have hn1 := g1.1
 obtain ⟨i1, b7, m7, es7, z7, rfl, rfl, rfl, hl1, hi1, ho1, kv7⟩ := kv1.aMh
 have hl7 := kv7.aMa
 simp only [Nd.kids] at hl7
 rw [hks] at hl7
 subst hl7
 simp only [aH, Nd.kind, Nd.text, Nd.num, Nd.pos, Nd.cW, Nd.ref] at ho1
 dsimp only [aH, Nd.kind, Nd.text, Nd.num, Nd.pos, Nd.cW, Nd.ref]
 refine Ma (w:=Mq (w:=Mq (w:=Mw (w:=Mw (w:=Mv (w:=Mv (w:=QO (MJ aKm (w:=xL (n := 60) (by omega) hp2 fun h2 c2 m2 es2 g2 kv2 => ?_)))))))))
 have hn2 := nx g2.1
 have gh2 : Gr h h2 ∧ True := ⟨(show Gr h _ from cC).trans g2, trivial⟩
 refine Ma (w:=Mq (w:=Mq (w:=Mw (w:=Mw (w:=Mv (w:=Mv (w:=QO (Mu (w:=Mn (w:=QK ?_))))))))));refine xN (h1 := ?_) (h2 := ?_);intro hh;refine Ma (w:=Mj (w:=Mt (w:=MD (w:=fun hh => Mc (w:=Ma (w:=Mj (w:=Mt (w:=Ms (w:=MD (w:=fun hh => Mc (w:=Ma (w:=Mj (w:=Mt (w:=Ml (w:=Mj (w:=Mt (w:=MB (w:=fun hh => Mc (w:=Ma (w:=Mj (w:=Mt (w:=Ml (w:=Mj (w:=Mt (w:=Ms (w:=MD (w:=fun hh => Mc (w:=Ma (w:=Mu (w:=Mn (w:=QK ?_))))) (v:=?_)))))))))) (v:=?_))))))))) (v:=?_))))))) (v:=?_))));refine xN (h1 := ?_) (h2 := ?_);intro hh;refine Mc (w:=Mb (w:=QM ?_));rotate_left;intro hh;exfalso;simp at hh;intro hh;exfalso;omega;intro hh;exfalso;simp at hh;intro hh;exfalso;omega;intro hh;exfalso;omega;intro hh;exfalso;simp at hh
 refine ⟨_, aJ, ?_⟩
 exact hq _ (by have := gh2.1; exact cC)

end Go.Proofs.ZL
