/- ParseSpaced: the law; a text, quoted. -/
import Derived.Test.YtoifleamknbeaaaGreatDoorYWB
import Derived.Test.YtoifleamknbeaaaGreatDoorYUH
open Go Go.Am
namespace Go.Proofs.ZL
set_option maxRecDepth 100000
set_option linter.unusedSimpArgs false
set_option linter.unusedVariables false
set_option maxHeartbeats 1000000

theorem pT_ok {src : ByteArray} {t : Nd} {s : St} (h0 : (scanS src).stage = 0) (h : fileF 200000 (recN 200000) (scanS src).toks false ⟨0, false⟩ = .ok t s) : parseT src = (t, 0, 0) := by
 have hp := (parseN_some src).1
 unfold parseN at hp
 rw [if_neg (fun e => e h0), h] at hp
 exact (Option.some.inj hp).symm
theorem pT_bad {src : ByteArray} {e : Nat} (h0 : (scanS src).stage = 0) (h : fileF 200000 (recN 200000) (scanS src).toks false ⟨0, false⟩ = .bad e) : parseT src = (zeroN, 4, (tokAt (scanS src).toks e).pos) := by
 have hp := (parseN_some src).1
 unfold parseN at hp
 rw [if_neg (fun e => e h0), h] at hp
 exact (Option.some.inj hp).symm
theorem NdR.bare {P : Int → Int → Prop} {t t' : Nd} (h : NdR P t t') : bareN t = bareN t' := by
 induction h with
 | mk kind text num pos pos' typ ref kids kids' hp hl hk ih =>
  unfold bareN
  have : kids.map bareN = kids'.map bareN := by
   apply List.ext_getElem?
   intro i
   rw [List.getElem?_map, List.getElem?_map]
   rcases Nat.lt_or_ge i kids.length with h | h
   ·have h' : i < kids'.length := by omega
    rw [List.getElem?_eq_getElem h, List.getElem?_eq_getElem h', Option.map_some, Option.map_some, ih i _ _ (List.getElem?_eq_getElem h) (List.getElem?_eq_getElem h')]
   ·rw [List.getElem?_eq_none h, List.getElem?_eq_none (by omega)]
  rw [this]

theorem tok_bares {L M : List Tok} (h : bares M = bares L) (i : Nat) : TokR (fun _ _ => True) (tokAt L i) (tokAt M i) := by
 have e : (tokAt M i).bare = (tokAt L i).bare := by
  have := congrArg (fun l => l.getD i ⟨6, (⟨#[]⟩ : ByteArray), 0, 0⟩) h
  have key : ∀ x : List Tok, (bares x).getD i ⟨6, (⟨#[]⟩ : ByteArray), 0, 0⟩ = (tokAt x i).bare := by
   intro x
   unfold bares tokAt
   rw [List.getD_eq_getElem?_getD, List.getD_eq_getElem?_getD, List.getElem?_map]
   cases x[i]? <;> rfl
  simp only [key] at this
  exact this
 refine ⟨(tokAt M i).pos, trivial, ?_⟩
 cases h1 : tokAt M i
 cases h2 : tokAt L i
 rw [h1, h2] at e
 simp only [Tok.bare, Tok.mk.injEq] at e
 simp [e]

theorem spaced_law {src : ByteArray} (hz : src.size ≤ 8192) (h0 : (scanS src).stage = 0) (hs : ((scanS src).toks.flatMap rend).length ≤ 8192) :
  (parseT src).2.1 = (parseT (bts ((scanS src).toks.flatMap rend))).2.1 ∧ bareN (parseT src).1 = bareN (parseT (bts ((scanS src).toks.flatMap rend))).1 := by
 obtain ⟨s0, hb⟩ := spaced_scan hz h0 hs
 generalize bts ((scanS src).toks.flatMap rend) = S at *
 have g : ∀ E, Alike (fun _ _ => True) (scanS src).toks (scanS S).toks 0 0 E := fun E => ⟨trivial, fun p => ⟨p, trivial⟩, fun i _ _ => by rw [Nat.zero_add]; exact tok_bares hb i⟩
 have hl := scanS_len src
 cases hr : fileF 200000 (recN 200000) (scanS src).toks false ⟨0, false⟩ with
 | ok t s =>
  have hbd := file_b (g s.k) (m := 200000) false ⟨0, false⟩ (Nat.zero_le _)
  rw [hr] at hbd
  obtain ⟨x, hx, hv⟩ := hbd.2.2.2 (Nat.le_refl _)
  rw [pT_ok h0 hr, pT_ok s0 hx]
  exact ⟨rfl, hv.bare⟩
 | bad i =>
  have hbd := file_b (g i) (m := 200000) false ⟨0, false⟩ (Nat.zero_le _)
  rw [hr] at hbd
  have hx := hbd.2 (Nat.le_refl _)
  rw [show St.sh 0 ⟨0, false⟩ = ⟨0, false⟩ from rfl] at hx
  rw [pT_bad h0 hr, pT_bad s0 hx]
  exact ⟨rfl, rfl⟩
 | out =>
  have hbd := file_b (g 0) (m := 200000) false ⟨0, false⟩ (Nat.zero_le _)
  rw [hr] at hbd
  exact (hbd (by omega)).elim

theorem toks_short {src : ByteArray} (hz : src.size ≤ 8192) (h0 : (scanS src).stage = 0) : ∀ t ∈ (scanS src).toks, t.text.size ≤ 256 := by
 obtain ⟨o, ho, e⟩ := scanS_ex hz
 cases hk : o.err.isOk with
 | false => rw [e, hk] at h0; cases h0
 | true =>
  rw [hk] at e
  simp only [if_true] at e
  cases hd : deepGo o.list 0 with
  | some p => rw [hd] at e; rw [e] at h0; cases h0
  | none =>
   rw [hd] at e
   obtain ⟨A, h1, h2, _⟩ := ho.vals (fun i t h => by cases h) hk
   rw [e, h1]
   intro t ht
   rcases List.mem_append.1 ht with ht | ht
   ·obtain ⟨i, hi⟩ := List.getElem?_of_mem ht
    rcases h2 i t hi with ⟨_, _, zs, hx, hz1, _⟩ | ⟨_, _, hx, _⟩ | ⟨_, _, hx⟩ | ⟨_, _, u, hx, _, _, _, h24, _⟩ | ⟨_, u, hx, _, _, h18, _, _⟩
    ·rw [hx, strOf_len]; exact hz1
    ·rw [hx]; decide
    ·have hm : marks.all (fun m => decide (m.size ≤ 256)) = true := by decide +kernel
     exact of_decide_eq_true (List.all_eq_true.1 hm _ (inS_iff.1 hx))
    ·rw [hx, bts_size]; omega
    ·rw [hx, bts_size]; omega
   ·rw [List.mem_singleton.1 ht]; exact Nat.zero_le _

theorem quo_len (z : Int) : (quo z).length ≤ 2 := by unfold quo; split <;> (try split) <;> simp
theorem quos_len : ∀ zs : List Int, (quos zs).length ≤ 2 * zs.length
 | [] => by simp [quos]
 | z :: zs => by
  have := quos_len zs
  have := quo_len z
  unfold quos at *
  rw [List.flatMap_cons, List.length_append, List.length_cons]; omega
theorem zsOf_len (x : ByteArray) : (zsOf x).length = x.size := by unfold zsOf; simp
theorem rend_len {t : Tok} (h : t.text.size ≤ 256) : (rend t).length ≤ 600 := by
 have := quos_len (zsOf t.text)
 have h2 := zsOf_len t.text
 have h3 : t.text.data.toList.length = t.text.size := by simp
 unfold rend
 split
 ·simp only [List.length_cons, List.length_append, List.length_nil]; omega
 split
 ·simp
 ·rw [List.length_cons]; omega
theorem zsOf_get {x : ByteArray} {i : Nat} (h : i < x.size) : (zsOf x)[i]? = some (byteN x i) := by
 obtain ⟨b, hb, hv⟩ := byteN_get h
 unfold zsOf
 rw [List.getElem?_map, hb, hv]; rfl
theorem bts_append (a b : List UInt8) : bts a ++ bts b = bts (a ++ b) := by
 apply ByteArray.ext
 rw [ByteArray.data_append]
 simp [bts]
theorem byteN_255 {x : ByteArray} {i : Nat} (h : i < x.size) : 0 ≤ byteN x i ∧ byteN x i ≤ 255 := by
 obtain ⟨b, _, hv⟩ := byteN_get h
 have := b.toNat_lt
 rw [hv]; omega

theorem quoted_w {x : ByteArray} (hx : x.size ≤ 1000) {h : Heap} {Q : ARes → Prop} (hq : ∀ h', Gr h h' → Q (.ret (.string (bts (34 :: (quos (zsOf x) ++ [34])))) h')) : WCall Tryz.prog G X 16 [.string x] h Q := by
 refine WCall.walk hX Tryz.func16 rfl rfl Tryz.ntmps16 rfl ?_
 refine QN hX ?_;refine QK (Qb ?_);refine QO hX ?_;refine QK (Qb ?_);refine QL ?_;refine QU hX ?_;refine QN hX ?_;refine QK (Qa ?_);refine QK (Qr ?_);refine QK (Qa ?_);refine QL ?_;refine WC.block hX ?_
 refine WC.loopInv hX (α := Nat) (m := fun i => x.size - i) (Inv := fun i v h' => v 0 = some (.string x) ∧ v 3 = some (.string (bts (34 :: quos ((zsOf x).take i)))) ∧ v 7 = some (.int .i64 x.size) ∧ v 8 = some (.int .i64 i) ∧ Gr h h' ∧ i ≤ x.size)
  0 ⟨rfl, rfl, rfl, rfl, Wwgr, by omega⟩ ?_
 rintro i v h1 ih ⟨e0, e3, e7, e8, g1, hi⟩
 have hl1 := quos_len ((zsOf x).take i)
 rw [List.length_take, zsOf_len] at hl1
 have hsz : (bts (34 :: quos ((zsOf x).take i))).size ≤ 3000 := by rw [bts_size, List.length_cons]; omega
 by_cases hlt : i < x.size
 ·have hsn : quos ((zsOf x).take (i + 1)) = quos ((zsOf x).take i) ++ quo (byteN x i) := by
   rw [List.take_add_one, zsOf_get hlt]
   unfold quos
   rw [List.flatMap_append]
   simp
  have hr := byteN_255 hlt
  have s10 : ((⟨#[92, 110]⟩ : ByteArray) : ByteArray).size = 2 := rfl
  have s92 : ((⟨#[92]⟩ : ByteArray) ++ strOf [byteN x i]).size = 2 := rfl
  have s1 : (strOf [byteN x i]).size = 1 := rfl
  have step : ∀ q, quo (byteN x i) = q → bts (34 :: quos ((zsOf x).take i)) ++ bts q = bts (34 :: quos ((zsOf x).take (i + 1))) := fun q hq => by
   rw [bts_append, List.cons_append, ← hq, hsn]
  refine QN hX ?_;refine QK (QF ?_ ?_);intro hh;refine QL ?_;refine QU hX ?_;refine QR hX ?_;refine UA ?_;refine QU hX ?_;refine WC.block hX ?_;refine QN hX ?_;refine QK (Qa ?_);refine QK (Qb ?_);refine QO hX ?_;refine QK (Qa ?_);refine QK (Qa ?_);refine QK (Qm ?_);refine QK (Qb ?_);refine QL ?_;refine WC.block hX ?_;refine QN hX ?_;refine QK (Qa ?_);refine QK (QD ?_ ?_);intro hh;refine QK (Qb ?_);refine QQ hX ?_;refine QV hX ?_;refine QK (Qa ?_);refine QK (Qh ?_);refine QK (Qb ?_);refine QL ?_;refine QV hX ?_;refine QK (Qf ?_);refine QK (Qa ?_);refine QL ?_;rotate_left;intro hh;refine QK (Qb ?_);refine QP hX ?_;refine QN hX ?_;refine QK (Qa ?_);refine QK (QD ?_ ?_);intro hh;refine QK (Qa ?_);refine QK (QA ?_);refine QK (QA ?_);refine QK (Qc ?_);refine QK (Qb ?_);refine QQ hX ?_;refine QV hX ?_;refine QK (Qa ?_);refine QK (Qa ?_);refine QK (Qy ?_);refine QK ?_;rotate_left;intro hh;refine QK (Qa ?_);refine QK (Qa ?_);refine QK (QD ?_ ?_);intro hh;refine QK (Qd ?_);refine QK (Qb ?_);refine QQ hX ?_;refine QV hX ?_;refine QK (Qa ?_);refine QK (Qa ?_);refine QK (Qy ?_);refine QK ?_;rotate_left;intro hh;refine QK (Qd ?_);refine QK (Qb ?_);refine QP hX ?_;refine QV hX ?_;refine QK (Qa ?_);refine QK (Qa ?_);refine QK (Qy ?_);refine QK ?_;rotate_left;intro hh;exfalso;omega
  ·refine ih (i + 1) _ _ (by omega) ⟨e0, congrArg (fun z => some (Value.string z)) (step [92, 110] (by unfold quo; rw [if_pos hh])), e7, rfl, Wwgr, by omega⟩
  ·refine WS.conv (fun H' => BSl H' 0 (some ⟨h1.next, 0, none⟩) 1 1 [byteN x (i : Int)]) rfl rfl Wwev (.inr ⟨_, rfl, Nat.zero_le _, Wwne, rfl, rfl, Wwobj⟩) (fun H' hH => hH.str) ?_
   refine QK (Qh ?_);refine QK (Qh ?_);refine QK (Qb ?_);refine QL ?_;refine QV hX ?_;refine QK (Qf ?_);refine QK (Qa ?_);refine QL ?_
   refine ih (i + 1) _ _ (by omega) ⟨e0, congrArg (fun z => some (Value.string z)) (step [92, zb (byteN x i)] (by unfold quo; rw [if_neg (by omega), if_pos (by omega)])), e7, rfl, Wwgr, by omega⟩
  ·refine WS.conv (fun H' => BSl H' 0 (some ⟨h1.next, 0, none⟩) 1 1 [byteN x (i : Int)]) rfl rfl Wwev (.inr ⟨_, rfl, Nat.zero_le _, Wwne, rfl, rfl, Wwobj⟩) (fun H' hH => hH.str) ?_
   refine QK (Qh ?_);refine QK (Qh ?_);refine QK (Qb ?_);refine QL ?_;refine QV hX ?_;refine QK (Qf ?_);refine QK (Qa ?_);refine QL ?_
   refine ih (i + 1) _ _ (by omega) ⟨e0, congrArg (fun z => some (Value.string z)) (step [92, zb (byteN x i)] (by unfold quo; rw [if_neg (by omega), if_pos (by omega)])), e7, rfl, Wwgr, by omega⟩
  ·refine WS.conv (fun H' => BSl H' 0 (some ⟨h1.next, 0, none⟩) 1 1 [byteN x (i : Int)]) rfl rfl Wwev (.inr ⟨_, rfl, Nat.zero_le _, Wwne, rfl, rfl, Wwobj⟩) (fun H' hH => hH.str) ?_
   refine QK (Qh ?_);refine QK (Qb ?_);refine QL ?_;refine QV hX ?_;refine QK (Qf ?_);refine QK (Qa ?_);refine QL ?_
   refine ih (i + 1) _ _ (by omega) ⟨e0, congrArg (fun z => some (Value.string z)) (step [zb (byteN x i)] (by unfold quo; rw [if_neg (by omega), if_neg (by omega)])), e7, rfl, Wwgr, by omega⟩
 ·obtain rfl : i = x.size := by omega
  rw [List.take_of_length_le (by rw [zsOf_len]; exact Nat.le_refl _)] at e3 hsz
  have s34 : ((⟨#[34]⟩ : ByteArray) : ByteArray).size = 1 := rfl
  refine QN hX ?_;refine QK (QF ?_ ?_);intro hh;exfalso;omega;intro hh;refine QL ?_;refine QU hX ?_;refine QS hX ?_;refine WC.exit ?_;refine exit_here ?_;refine QN hX ?_;refine QK (Qa ?_);refine QK (Qh ?_);refine QK (Qb ?_);refine QM ?_
  refine ⟨_, Wwres, ?_⟩
  rw [show (34 :: (quos (zsOf x) ++ [34]) : List UInt8) = (34 :: quos (zsOf x)) ++ [34] from rfl, ← bts_append] at hq
  exact hq _ g1

theorem parse_v {src : ByteArray} {t : Nd} {st p : Int} (hT : parseT src = (t, st, p)) {h : Heap} {Q : ARes → Prop}
  (hq : ∀ h' b m es, Gr h h' → NV h' (fun j => h.next ≤ j) (ncells t b m es) t → Q (.ret (.tuple #[.agg (ncells t b m es).toArray, .agg #[.int .i64 st, .int .i64 p]]) h')) : WCall Tryz.prog G X 12 [.string src] h Q :=
 Parse_w (n := 200000) (by omega) (by rw [(parseN_some src).1, hT]) hq

theorem NV.gr {h h' : Heap} {S : Nat → Prop} {vs : List Value} {t : Nd} (hv : NV h S vs t) (g : Gr h h') : NV h' S vs t := hv.mono g.1 fun j hj hlt => ⟨hj, g.2 j hlt⟩
theorem flat_len {l : List Tok} (h : ∀ t ∈ l, t.text.size ≤ 256) : (l.flatMap rend).length ≤ 600 * l.length := by
 induction l with
 | nil => simp
 | cons t l ih =>
  have := ih fun u hu => h u (List.mem_cons_of_mem _ hu)
  have := rend_len (h t List.mem_cons_self)
  rw [List.flatMap_cons, List.length_append, List.length_cons]; omega

theorem parseSpaced_w {src : ByteArray} (hza : src.size ≤ 140737488355328) {h : Heap} {Q : ARes → Prop} (hq : ∀ h', Q (.ret (.bool true) h')) : WCall Tryz.prog G X 4 [.string src] h Q := by
 have law := fun hz => @spaced_law src hz
 have shr := fun hz => @toks_short src hz
 have hlen := scanS_len src
 have smA := (parseN_some src).2
 obtain ⟨ta, sa, pa, hF⟩ : ∃ t s p, parseT src = (t, s, p) := ⟨_, _, _, rfl⟩
 rw [hF] at law smA
 simp only at law smA
 refine WCall.walk hX Tryz.func4 rfl rfl Tryz.ntmps4 rfl ?_
 refine QN hX ?_;refine QK (Qb ?_);refine QL ?_;refine QU hX ?_;refine QN hX ?_;refine QK ?_
 refine QJ en11 ?_
 refine anchor_w fun h1 g1 => ?_
 refine QK (Qe ?_);refine QP hX ?_;refine UA ?_;refine QU hX ?_;refine QN hX ?_;refine QK (Qa ?_);refine QK (Qr ?_);refine QK (QH ?_ ?_);intro hh;refine QQ hX ?_;refine QN hX ?_;refine QK (Qb ?_);refine QM ?_;rotate_left;intro hh;refine QP hX ?_;refine UA ?_;refine QN hX ?_;refine QK (Qa ?_);refine QK ?_;rotate_left
 ·((apply Exists.intro; apply And.intro; (· repeat (first | exact resultA_nil | (apply resultA_tmp; (· (first | rfl | assumption))) | (apply resultA_cellG; (· (first | rfl | assumption)); (· rfl); (· exact sz_at rfl); (· (repeat (first | assumption | (with_reducible rfl) | exact obj_new | exact obj_put | (refine obj_old (by (first | omega | (simp only [Heap.alloc_next, Heap.put_next]; omega))) ?_) | (refine obj_else (by (first | omega | (simp only [Heap.alloc_next, Heap.put_next]; omega))) ?_) | (apply Gr.at; (· assumption); (· (first | omega | (simp only [Heap.alloc_next, Heap.put_next]; omega)))) | (apply Fr1.at; (· assumption); (· (first | omega | (simp only [Heap.alloc_next, Heap.put_next]; omega))); (· (first | omega | (simp only [Heap.alloc_next, Heap.put_next]; omega))))))); (· (first | (exact Nat.le_of_ble_eq_true rfl) | (simp; done) | omega)); (· rfl)) | (apply resultA_cellS; (· (first | rfl | assumption)); (· rfl); (· (repeat (first | assumption | (with_reducible rfl) | exact obj_new | exact obj_put | (refine obj_old (by (first | omega | (simp only [Heap.alloc_next, Heap.put_next]; omega))) ?_) | (refine obj_else (by (first | omega | (simp only [Heap.alloc_next, Heap.put_next]; omega))) ?_) | (apply Gr.at; (· assumption); (· (first | omega | (simp only [Heap.alloc_next, Heap.put_next]; omega)))) | (apply Fr1.at; (· assumption); (· (first | omega | (simp only [Heap.alloc_next, Heap.put_next]; omega))); (· (first | omega | (simp only [Heap.alloc_next, Heap.put_next]; omega))))))); (· rfl)))))); exact hq _
 refine QJ en15 ?_
 refine rScan_w hza fun h3 b3 n3 es3 g3 ht3 => ?_
 have hn3 := g3.1
 have l3 := ht3.len
 clear g3
 refine QK (Qa ?_);refine QK (Qq ?_);refine QK (Qq ?_);refine QK (Qw ?_);refine QK (Qb ?_);refine QK (Qv ?_);refine QL ?_;refine QU hX ?_;refine QN hX ?_;refine QK (Qj ?_);refine QK (Qt ?_);refine QK (QE ?_ ?_);intro hh;refine QQ hX ?_;refine QN hX ?_;refine QK (Qb ?_);refine QM ?_;rotate_left;intro hh;refine QP hX ?_;refine UA ?_;refine QN hX ?_;refine QK (Qb ?_);refine QL ?_;refine QU hX ?_;refine QN hX ?_;refine QK (Qa ?_);refine QK (Qs ?_);refine QK (Qa ?_);refine QL ?_;refine WC.block hX ?_;rotate_left
 ·((apply Exists.intro; apply And.intro; (· repeat (first | exact resultA_nil | (apply resultA_tmp; (· (first | rfl | assumption))) | (apply resultA_cellG; (· (first | rfl | assumption)); (· rfl); (· exact sz_at rfl); (· (repeat (first | assumption | (with_reducible rfl) | exact obj_new | exact obj_put | (refine obj_old (by (first | omega | (simp only [Heap.alloc_next, Heap.put_next]; omega))) ?_) | (refine obj_else (by (first | omega | (simp only [Heap.alloc_next, Heap.put_next]; omega))) ?_) | (apply Gr.at; (· assumption); (· (first | omega | (simp only [Heap.alloc_next, Heap.put_next]; omega)))) | (apply Fr1.at; (· assumption); (· (first | omega | (simp only [Heap.alloc_next, Heap.put_next]; omega))); (· (first | omega | (simp only [Heap.alloc_next, Heap.put_next]; omega))))))); (· (first | (exact Nat.le_of_ble_eq_true rfl) | (simp; done) | omega)); (· rfl)) | (apply resultA_cellS; (· (first | rfl | assumption)); (· rfl); (· (repeat (first | assumption | (with_reducible rfl) | exact obj_new | exact obj_put | (refine obj_old (by (first | omega | (simp only [Heap.alloc_next, Heap.put_next]; omega))) ?_) | (refine obj_else (by (first | omega | (simp only [Heap.alloc_next, Heap.put_next]; omega))) ?_) | (apply Gr.at; (· assumption); (· (first | omega | (simp only [Heap.alloc_next, Heap.put_next]; omega)))) | (apply Fr1.at; (· assumption); (· (first | omega | (simp only [Heap.alloc_next, Heap.put_next]; omega))); (· (first | omega | (simp only [Heap.alloc_next, Heap.put_next]; omega))))))); (· rfl)))))); exact hq _
 have h0 : (scanS src).stage = 0 := by omega
 replace law := law (by omega) h0
 replace shr := shr (by omega) h0
 generalize (scanS src).toks = L at *
 skip
 refine WC.loopInv hX (α := Nat) (m := fun i => n3 - i) (Inv := fun i v h' => v 0 = some (.string src) ∧ v 5 = some (.string (bts ((L.take i).flatMap rend))) ∧ v 25 = some (.slice b3 n3 es3) ∧ v 26 = some (.int .i64 n3) ∧ v 27 = some (.int .i64 i) ∧ Gr h3 h' ∧ i ≤ n3)
  0 ⟨rfl, rfl, rfl, rfl, rfl, Wwgr, by omega⟩ ?_
 rintro i v h5 ih ⟨e0, e5, e25, e26, e27, g5, hi⟩
 have hn5 := g5.1
 by_cases him : i < n3
 rotate_left
 ·obtain rfl : i = n3 := by omega
  rw [List.take_of_length_le (by omega)] at e5
  have hS : (bts (L.flatMap rend)).size = (L.flatMap rend).length := bts_size _
  have smB := (parseN_some (bts (L.flatMap rend))).2
  obtain ⟨tb, sb, pb, hG⟩ : ∃ t s p, parseT (bts (L.flatMap rend)) = (t, s, p) := ⟨_, _, _, rfl⟩
  rw [hG] at law smB
  simp only at law smB
  generalize bts (L.flatMap rend) = S at *
  refine QN hX ?_;refine QK (QF ?_ ?_);intro hh;exfalso;omega;intro hh;refine QL ?_;refine QU hX ?_;refine QS hX ?_;refine WC.exit ?_;refine exit_here ?_;refine QU hX ?_;refine QN hX ?_;refine QK (Qa ?_);refine QK (Qr ?_);refine QK (QH ?_ ?_);intro hh;refine QQ hX ?_;refine QN hX ?_;refine QK (Qb ?_);refine QM ?_;rotate_left;intro hh;refine QP hX ?_;refine UA ?_;refine QN hX ?_;refine QK (Qa ?_);refine QK ?_;rotate_left
  ·((apply Exists.intro; apply And.intro; (· repeat (first | exact resultA_nil | (apply resultA_tmp; (· (first | rfl | assumption))) | (apply resultA_cellG; (· (first | rfl | assumption)); (· rfl); (· exact sz_at rfl); (· (repeat (first | assumption | (with_reducible rfl) | exact obj_new | exact obj_put | (refine obj_old (by (first | omega | (simp only [Heap.alloc_next, Heap.put_next]; omega))) ?_) | (refine obj_else (by (first | omega | (simp only [Heap.alloc_next, Heap.put_next]; omega))) ?_) | (apply Gr.at; (· assumption); (· (first | omega | (simp only [Heap.alloc_next, Heap.put_next]; omega)))) | (apply Fr1.at; (· assumption); (· (first | omega | (simp only [Heap.alloc_next, Heap.put_next]; omega))); (· (first | omega | (simp only [Heap.alloc_next, Heap.put_next]; omega))))))); (· (first | (exact Nat.le_of_ble_eq_true rfl) | (simp; done) | omega)); (· rfl)) | (apply resultA_cellS; (· (first | rfl | assumption)); (· rfl); (· (repeat (first | assumption | (with_reducible rfl) | exact obj_new | exact obj_put | (refine obj_old (by (first | omega | (simp only [Heap.alloc_next, Heap.put_next]; omega))) ?_) | (refine obj_else (by (first | omega | (simp only [Heap.alloc_next, Heap.put_next]; omega))) ?_) | (apply Gr.at; (· assumption); (· (first | omega | (simp only [Heap.alloc_next, Heap.put_next]; omega)))) | (apply Fr1.at; (· assumption); (· (first | omega | (simp only [Heap.alloc_next, Heap.put_next]; omega))); (· (first | omega | (simp only [Heap.alloc_next, Heap.put_next]; omega))))))); (· rfl)))))); exact hq _
  refine QJ en12 ?_
  refine parse_v hF fun h6 b6 m6 es6 g6 kv6 => ?_
  have hn6 := g6.1
  refine QK (Qa ?_);refine QK (Qq ?_);refine QK (Qq ?_);refine QK (Qw ?_);refine QK (Qw ?_);refine QK (Qv ?_);refine QK (Qv ?_);refine QO hX ?_;refine QK (Qa ?_);refine QK ?_
  refine QJ en12 ?_
  refine parse_v hG fun h7 b7 m7 es7 g7 kv7 => ?_
  have hn7 := g7.1
  (try simp only [UB, UC] at hn7)
  obtain ⟨l1, l2⟩ := law (by omega)
  have o8 : h7.obj h6.next = some (.cells false (ncells ta b6 m6 es6)) := g7.at Wwne Wwobj
  have o9 : h7.obj (h6.next + 1) = some (.cells false [.int .i64 sa, .int .i64 pa]) := g7.at Wwne Wwobj
  have G67 : Gr h6 h7 := (show Gr h6 _ from Wwgr).trans g7
  refine QK (Qa ?_);refine QK (Qq ?_);refine QK (Qq ?_);refine QK (Qw ?_);refine QK (Qw ?_);refine QK (Qv ?_);refine QK (Qv ?_);refine QL ?_;refine QU hX ?_;refine WC.drawn (id := 22) hX (l := [⟨0, .pure, 0⟩, ⟨1, .read, 1⟩, ⟨2, .pure, 0⟩, ⟨3, .read, 4⟩, ⟨4, .pure, 15⟩, ⟨5, .pure, 31⟩, ⟨6, .read, 63⟩, ⟨8, .read, 63⟩, ⟨7, .heavy, 127⟩, ⟨9, .heavy, 511⟩, ⟨10, .heavy, 1023⟩, ⟨11, .pure, 2047⟩, ⟨12, .pure, 4095⟩]) (hw := ?_);refine QW (k := Qj ?_);refine QX (k := Qt ?_);refine QW (k := Qj ?_);refine QX (k := Qt ?_);refine QW (k := QD ?_ ?_);intro hh;refine QW (k := Qa ?_);refine QX (k := Qu ?_);refine QX (k := Qu ?_);refine WD.heavy hX (hw := ?_);rotate_left;intro hh;exfalso;omega
  refine QJ en17 ?_
  refine bare_w (N := 20000) (by omega) (kv6.gr (G67.trans Wwgr)) smA fun h8 b8 n8 es8 g8 kv8 => ?_
  have hn8 := g8.1
  (try simp only [UB, UC] at hn8)
  have q1 : h8.obj h6.next = some (.cells false (ncells ta b6 m6 es6)) := g8.at Wwne Wwobj
  have q2 : h8.obj (h6.next + 1) = some (.cells false [.int .i64 sa, .int .i64 pa]) := g8.at Wwne Wwobj
  have q3 : h8.obj h7.next = some (.cells false (ncells tb b7 m7 es7)) := g8.at Wwne Wwobj
  have q4 : h8.obj (h7.next + 1) = some (.cells false [.int .i64 sb, .int .i64 pb]) := g8.at Wwne Wwobj
  have G78 : Gr h7 h8 := (show Gr h7 _ from Wwgr).trans g8
  refine WD.heavy hX (hw := ?_)
  refine QJ en17 ?_
  refine bare_w (N := 20000) (by omega) (kv7.gr G78) smB fun h9 b9 n9 es9 g9 kv9 => ?_
  have r1 := g9.at (by omega) q1
  have r2 := g9.at (by omega) q2
  have r3 := g9.at (by omega) q3
  have r4 := g9.at (by omega) q4
  have hn9 := g9.1
  refine WD.heavy hX (hw := ?_)
  refine QJ en14 ?_
  refine same_w (N := 20000) (by omega) (kv8.gr g9) kv9 smA.bare fun h10 r g10 hr => ?_
  have r5 := g10.at (by omega) r1
  have r6 := g10.at (by omega) r2
  have r7 := g10.at (by omega) r3
  have r8 := g10.at (by omega) r4
  have hr1 := hr.2 l2
  subst hr1
  refine QW (k := Qc ?_);refine QW (k := Qb ?_);refine WD.nil (hq := ?_);refine WC.ret ?_
  refine ⟨_, Wwres, ?_⟩
  exact hq _
 rcases ht3 with ⟨_, hx0, _, _⟩ | ⟨j3, rfl, _, hj3, rfl, _, o3⟩
 ·omega
 have o3' : h5.obj j3 = some (.cells false (cellsOf L)) := g5.at hj3 o3
 have hi2 : i < L.length := by omega
 have hti : L[i]? = some L[i] := List.getElem?_eq_getElem hi2
 have htx := shr _ (List.getElem_mem hi2)
 have hfl : (L.take (i + 1)).flatMap rend = (L.take i).flatMap rend ++ rend L[i] := by rw [List.take_succ_eq_append_getElem hi2, List.flatMap_append, List.flatMap_singleton]
 have hsz : (bts ((L.take i).flatMap rend)).size ≤ 6000000 := by
  have := flat_len (l := L.take i) fun t ht => shr t (List.mem_of_mem_take ht)
  rw [bts_size]
  rw [List.length_take] at this
  omega
 generalize L[i] = t at *
 have step : ∀ q, rend t = q → bts ((L.take i).flatMap rend) ++ bts q = bts ((L.take (i + 1)).flatMap rend) := fun q hq => by rw [bts_append, ← hq, hfl]
 generalize bts ((L.take i).flatMap rend) = S at *
 refine QN hX ?_;refine QK (QF ?_ ?_);intro hh;refine QL ?_;refine QU hX ?_;refine QR hX ?_;refine UA ?_;refine QU hX ?_;refine WC.block hX ?_;refine QN hX ?_;refine QK (Ql ?_);refine QK ?_;rotate_left;intro hh;exfalso;omega
 refine WS.loadG (vs := t.cells) (hc := ?_) (hv' := ?_) (hk := ?_)
 (· rw [cellsOf_length]; omega); (· rw [show 0 + (i : Int).toNat * 4 = i * 4 by omega, cells_at hti]; rfl)
 have hql := quos_len (zsOf t.text)
 have hzl := zsOf_len t.text
 have hqs : (bts (34 :: (quos (zsOf t.text) ++ [34]))).size ≤ 600 := by rw [bts_size]; simp; omega
 have e32 : ((⟨#[32]⟩ : ByteArray) ++ bts (34 :: (quos (zsOf t.text) ++ [34])) : ByteArray) = bts (32 :: 34 :: (quos (zsOf t.text) ++ [34])) := bts_append [32] _
 have e9 : ((⟨#[9]⟩ : ByteArray) ++ t.text : ByteArray) = bts (9 :: t.text.data.toList) := by
  have := bts_append [9] t.text.data.toList
  rw [of_list] at this
  exact this
 have z32 : ((⟨#[32]⟩ : ByteArray) ++ bts (34 :: (quos (zsOf t.text) ++ [34])) : ByteArray).size ≤ 601 := by rw [ByteArray.size_append]; have : ((⟨#[32]⟩ : ByteArray) : ByteArray).size = 1 := rfl; omega
 have z9 : ((⟨#[9]⟩ : ByteArray) ++ t.text : ByteArray).size ≤ 257 := by rw [ByteArray.size_append]; have : ((⟨#[9]⟩ : ByteArray) : ByteArray).size = 1 := rfl; omega
 refine QK (Qw ?_);refine QK (Qv ?_);refine QL ?_;refine WC.block hX ?_;refine QN hX ?_;refine QK (Qj ?_);refine QK (Qt ?_);refine QK (QD ?_ ?_);intro hh;refine QK (Qb ?_);refine QQ hX ?_;refine QV hX ?_;refine QK (Qa ?_);refine QK (Qj ?_);refine QK (Qt ?_);refine QK ?_;rotate_left;intro hh;refine QK (Qb ?_);refine QP hX ?_;refine QN hX ?_;refine QK (Qj ?_);refine QK (Qt ?_);refine QK (QD ?_ ?_);intro hh;refine QK (Qa ?_);refine QK (Qj ?_);refine QK (Qt ?_);refine QK (QD ?_ ?_);intro hh;refine QK (Qc ?_);refine QK (Qb ?_);refine QQ hX ?_;refine QV hX ?_;refine QK (Qa ?_);refine QK (Qh ?_);refine QK (Qb ?_);refine QL ?_;refine QV hX ?_;refine QK (Qf ?_);refine QK (Qa ?_);refine QL ?_;rotate_left;intro hh;refine QK (Qc ?_);refine QK (Qb ?_);refine QP hX ?_;refine QV hX ?_;refine QK (Qa ?_);refine QK (Qj ?_);refine QK (Qt ?_);refine QK (Qh ?_);refine QK (Qh ?_);refine QK (Qb ?_);refine QL ?_;refine QV hX ?_;refine QK (Qf ?_);refine QK (Qa ?_);refine QL ?_;rotate_left;intro hh;refine QK (Qa ?_);refine QK (QA ?_);refine QK (QA ?_);refine QK (QA ?_);refine QK (Qd ?_);refine QK (Qb ?_);refine QP hX ?_;refine QV hX ?_;refine QK (Qa ?_);refine QK (Qj ?_);refine QK (Qt ?_);refine QK (Qh ?_);refine QK (Qh ?_);refine QK (Qb ?_);refine QL ?_;refine QV hX ?_;refine QK (Qf ?_);refine QK (Qa ?_);refine QL ?_;rotate_left
 ·refine QJ en16 ?_
  refine quoted_w (by omega) fun h6 g6 => ?_
  have G6 : Gr h5 h6 := (show Gr h5 _ from Wwgr).trans g6
  refine QK (Qh ?_);refine QK (Qh ?_);refine QK (Qb ?_);refine QL ?_;refine QV hX ?_;refine QK (Qf ?_);refine QK (Qa ?_);refine QL ?_
  exact ih (i + 1) _ _ (by omega) ⟨e0, congrArg (fun z => some (Value.string z)) ((congrArg (S ++ ·) e32).trans (step _ (by unfold rend; rw [if_pos hh]))), e25, e26, rfl, g5.trans G6, by omega⟩
 ·exact ih (i + 1) _ _ (by omega) ⟨e0, congrArg (fun z => some (Value.string z)) (step [32, 47, 47, 32, 59, 10, 10] (by unfold rend; rw [if_neg (by omega), if_pos ⟨by assumption, hh⟩])), e25, e26, rfl, g5.trans Wwgr, by omega⟩
 ·exact ih (i + 1) _ _ (by omega) ⟨e0, congrArg (fun z => some (Value.string z)) ((congrArg (S ++ ·) e9).trans (step _ (by unfold rend; rw [if_neg (by omega), if_neg (by omega)]))), e25, e26, rfl, g5.trans Wwgr, by omega⟩
 ·exact ih (i + 1) _ _ (by omega) ⟨e0, congrArg (fun z => some (Value.string z)) ((congrArg (S ++ ·) e9).trans (step _ (by unfold rend; rw [if_neg (by omega), if_neg (by omega)]))), e25, e26, rfl, g5.trans Wwgr, by omega⟩

end Go.Proofs.ZL
