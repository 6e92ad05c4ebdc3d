/- The parse laws: what they share. USEEQ -/
import Derived.Test.YtoifleamknbeaaaGreatDoorYP6
open Go Go.Am
namespace Go.Proofs.ZL
set_option maxRecDepth 100000
set_option linter.unusedSimpArgs false
set_option linter.unusedVariables false
set_option maxHeartbeats 1000000

def fineN (n : Nat) (src : ByteArray) : Option Bool := match parseN n src with
 | some (_, st, p) => some (decide (st = 0 ∧ p = 0 ∧ True))
 | none => none

theorem fine_w {n : Nat} (hn : n ≤ 1000000) {src : ByteArray} {b : Bool} (hs : fineN n src = some b) {h : Heap} {Q : ARes → Prop} (hq : ∀ h', Gr h h' → Q (.ret (.bool b) h')) : WCall Tryz.prog G X 18 [.string src] h Q := by
 unfold fineN at hs
 split at hs
 case h_2 => cases hs
 rename_i t st p hp
 cases hs
 refine WCall.walk hX Tryz.func18 rfl rfl Tryz.ntmps18 rfl ?_
 refine QN hX ?_;refine QK (Qb ?_);refine QO hX ?_;refine QK (Qa ?_);refine QK ?_
 refine QJ en12 ?_
 refine Parse_w hn hp fun h1 b1 m1 es1 g1 kv1 => ?_
 have hn1 := g1.1
 refine QK (Qa ?_);refine QK (Qq ?_);refine QK (Qq ?_);refine QK (Qw ?_);refine QK (Qw ?_);refine QK (Qv ?_);refine QK (Qv ?_);refine QO hX ?_;refine QK (Qu ?_);refine QK (Qn ?_);refine QK ?_;refine WS_eq26 (h1 := ?_) (h2 := ?_);intro hh;refine QK (Qb ?_);refine QM ?_;rotate_left;intro hh;refine QK (Qb ?_);refine QM ?_;rotate_left
 ·rw [decide_eq_true hh] at hq
  refine ⟨_, Wwres, ?_⟩
  exact hq _ Wwgr
 ·rw [decide_eq_false hh] at hq
  refine ⟨_, Wwres, ?_⟩
  exact hq _ Wwgr

theorem NV.lenK {h : Heap} {S : Nat → Prop} {b : Option Addr} {n es : Nat} {t : Nd} (hv : NV h S (ncells t b n es) t) : n = t.kids.length := by
 generalize hc : ncells t b n es = vs at hv
 cases hv with
 | leaf kind text num pos typ ref => simp only [ncells, Nd.kind, Nd.text, Nd.num, Nd.pos, Nd.typ, Nd.ref, List.cons.injEq, Value.slice.injEq] at hc; obtain ⟨_, _, _, _, _, _, ⟨_, rfl, _⟩, _⟩ := hc; rfl
 | node kind text num pos typ ref kids i cells _ _ _ _ _ => simp only [ncells, Nd.kind, Nd.text, Nd.num, Nd.pos, Nd.typ, Nd.ref, List.cons.injEq, Value.slice.injEq] at hc; obtain ⟨_, _, _, _, _, _, ⟨_, rfl, _⟩, _⟩ := hc; rfl

theorem NV.kidsAt {h : Heap} {S : Nat → Prop} {b : Option Addr} {n es : Nat} {t : Nd} (hv : NV h S (ncells t b n es) t) (hne : t.kids ≠ []) : ∃ i cells, b = some ⟨i, 0, Option.none⟩ ∧ n = t.kids.length ∧ es = 7 ∧ S i ∧ i < h.next ∧ h.obj i = some (.cells false cells) ∧ cells.length = t.kids.length * 7 ∧
  ∀ j u, t.kids[j]? = some u → NV h S ((cells.drop (j * 7)).take 7) u := by
 generalize hc : ncells t b n es = vs at hv
 cases hv with
 | leaf kind text num pos typ ref => exact (hne rfl).elim
 | node kind text num pos typ ref kids i cells h1 h2 h3 h4 h5 =>
  simp only [ncells, Nd.kind, Nd.text, Nd.num, Nd.pos, Nd.typ, Nd.ref, List.cons.injEq, Value.slice.injEq] at hc
  obtain ⟨_, _, _, _, _, _, ⟨rfl, rfl, rfl⟩, _⟩ := hc
  exact ⟨i, cells, rfl, rfl, rfl, h1, h2, h3, h4, h5⟩

theorem NV.kid1 {h : Heap} {S : Nat → Prop} {b : Option Addr} {n es : Nat} {k : Int} {x : ByteArray} {a p : Int} {y : ByteArray} {r : Int} {c : Nd} (hv : NV h S (ncells (.mk k x a p y r [c]) b n es) (.mk k x a p y r [c])) :
  ∃ i b' n' es', b = some ⟨i, 0, Option.none⟩ ∧ n = 1 ∧ es = 7 ∧ S i ∧ i < h.next ∧ h.obj i = some (.cells false (ncells c b' n' es')) ∧ NV h S (ncells c b' n' es') c := by
 obtain ⟨i, cells, h1, h2, h3, h4, h5, h6, h7, h8⟩ := hv.kidsAt (by simp [Nd.kids])
 have h9 := h8 0 c rfl
 simp only [Nd.kids, List.length_singleton] at h7
 rw [Nat.zero_mul, List.drop_zero, List.take_of_length_le (by omega)] at h9
 obtain ⟨b', n', es', rfl⟩ := h9.cells
 exact ⟨i, b', n', es', h1, h2, h3, h4, h5, h6, h9⟩

def anchorB (n : Nat) : Bool :=
  (match parseN n (⟨#[102, 117, 110, 99, 32, 109, 97, 105, 110, 40, 41, 32, 123, 32, 120, 32, 58, 61, 32, 49, 32, 125]⟩ : ByteArray) with
   | some (.mk k _ _ _ _ _ [.mk _ x _ _ _ _ ks], st, p) => decide (st = 0 ∧ p = 0 ∧ True) && decide (k = 1) && decide (x = (⟨#[109, 97, 105, 110]⟩ : ByteArray)) && decide (ks.length = 3)
   | _ => false) &&
  (match parseN n (⟨#[102, 117, 110, 99, 32, 102, 40, 41, 32, 123, 32, 97, 32, 43, 32, 98, 32, 125]⟩ : ByteArray) with
   | some (_, st, p) => decide (st = 4 ∧ p = 13 ∧ True)
   | _ => false)

theorem anchorB_true : anchorB 60 = true := by decide +kernel

theorem anchor_w {h : Heap} {Q : ARes → Prop} (hq : ∀ h', Gr h h' → Q (.ret (.bool true) h')) : WCall Tryz.prog G X 11 [] h Q := by
 have ha := anchorB_true
 unfold anchorB at ha
 rw [Bool.and_eq_true] at ha
 obtain ⟨ha1, ha2⟩ := ha
 split at ha1
 case h_2 => cases ha1
 rename_i k a1 a2 a3 a4 a5 b0 x b1 b2 b3 b4 ks st p hp1
 split at ha2
 case h_2 => cases ha2
 rename_i t2 st2 p2 hp2
 simp only [Bool.and_eq_true, decide_eq_true_eq] at ha1 ha2
 obtain ⟨⟨⟨⟨rfl, rfl, _⟩, rfl⟩, rfl⟩, hks⟩ := ha1
 obtain ⟨rfl, rfl, _⟩ := ha2
 refine WCall.walk hX Tryz.func11 rfl rfl Tryz.ntmps11 rfl ?_
 refine QN hX ?_;refine QK (Qb ?_);refine QO hX ?_;refine QK ?_
 refine QJ en12 ?_
 refine Parse_w (n := 60) (by omega) hp1 fun h1 c1 m1 es1 g1 kv1 => ?_
 have hn1 := g1.1
 obtain ⟨i1, b7, m7, es7, rfl, rfl, rfl, hl1, hi1, ho1, kv7⟩ := kv1.kid1
 have hl7 := kv7.lenK
 simp only [Nd.kids] at hl7
 rw [hks] at hl7
 subst hl7
 simp only [ncells, Nd.kind, Nd.text, Nd.num, Nd.pos, Nd.typ, Nd.ref] at ho1
 dsimp only [ncells, Nd.kind, Nd.text, Nd.num, Nd.pos, Nd.typ, Nd.ref]
 refine QK (Qa ?_);refine QK (Qq ?_);refine QK (Qq ?_);refine QK (Qw ?_);refine QK (Qw ?_);refine QK (Qv ?_);refine QK (Qv ?_);refine QO hX ?_;refine QK ?_
 refine QJ en12 ?_
 refine Parse_w (n := 60) (by omega) hp2 fun h2 c2 m2 es2 g2 kv2 => ?_
 have hn2 := g2.1
 (try simp only [UB, UC] at hn2)
 have gh2 : Gr h h2 ∧ True := ⟨(show Gr h _ from Wwgr).trans g2, trivial⟩
 refine QK (Qa ?_);refine QK (Qq ?_);refine QK (Qq ?_);refine QK (Qw ?_);refine QK (Qw ?_);refine QK (Qv ?_);refine QK (Qv ?_);refine QO hX ?_;refine QK (Qu ?_);refine QK (Qn ?_);refine QK ?_;refine WS_eq26 (h1 := ?_) (h2 := ?_);intro hh;refine QK (Qa ?_);refine QK (Qj ?_);refine QK (Qt ?_);refine QK (QD ?_ ?_);intro hh;refine QK (Qc ?_);refine QK (Qa ?_);refine QK (Qj ?_);refine QK (Qt ?_);refine QK (Qs ?_);refine QK (QD ?_ ?_);intro hh;refine QK (Qc ?_);refine QK (Qa ?_);refine QK (Qj ?_);refine QK (Qt ?_);refine QK (Ql ?_);refine QK (Qj ?_);refine QK (Qt ?_);refine QK (QB ?_ ?_);intro hh;refine QK (Qc ?_);refine QK (Qa ?_);refine QK (Qj ?_);refine QK (Qt ?_);refine QK (Ql ?_);refine QK (Qj ?_);refine QK (Qt ?_);refine QK (Qs ?_);refine QK (QD ?_ ?_);intro hh;refine QK (Qc ?_);refine QK (Qa ?_);refine QK (Qu ?_);refine QK (Qn ?_);refine QK ?_;refine WS_eq26 (h1 := ?_) (h2 := ?_);intro hh;refine QK (Qc ?_);refine QK (Qb ?_);refine QM ?_;rotate_left;intro hh;exfalso;simp at hh;intro hh;exfalso;omega;intro hh;exfalso;simp at hh;intro hh;exfalso;omega;intro hh;exfalso;omega;intro hh;exfalso;simp at hh
 refine ⟨_, Wwres, ?_⟩
 exact hq _ (by have := gh2.1; exact Wwgr)

end Go.Proofs.ZL
