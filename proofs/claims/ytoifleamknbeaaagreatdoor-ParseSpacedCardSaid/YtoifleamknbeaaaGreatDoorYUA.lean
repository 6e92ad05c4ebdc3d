/- The document's answer: does a word stand in a list between blanks? -/
import Derived.Test.YtoifleamknbeaaaGreatDoorYSJ
import Derived.Test.YtoifleamknbeaaaGreatDoorYNb
open Go Go.Am
namespace Go.Proofs.ZL
set_option maxRecDepth 100000
set_option linter.unusedSimpArgs false
set_option linter.unusedVariables false
set_option maxHeartbeats 1000000

def okL (l : List UInt8) (ws : List (List UInt8)) : Bool :=
 ws.all (fun s => decide (s ≠ []) && (List.range l.length).any fun i => decide ((l.drop i).take (s.length + 2) = 32 :: s ++ [32])) &&
 (List.range l.length).all fun i => decide (l[i]? ≠ some 32) || decide ((l.drop (i + 1)).takeWhile (fun b => decide (b ≠ 32)) = []) || decide ((l.drop (i + 1)).takeWhile (fun b => decide (b ≠ 32)) ∈ ws)

theorem in_ok {l : List UInt8} {ws : List (List UInt8)} (h : okL l ws = true) {s : List UInt8} (hb : ∀ b ∈ s, b ≠ 32) : (s ≠ [] ∧ ∃ i, (l.drop i).take (s.length + 2) = 32 :: s ++ [32]) ↔ s ∈ ws := by
 unfold okL at h
 rw [Bool.and_eq_true, List.all_eq_true, List.all_eq_true] at h
 obtain ⟨h1, h2⟩ := h
 constructor
 ·rintro ⟨hne, i, hi⟩
  have hlen := congrArg List.length hi
  simp only [List.length_take, List.length_drop, List.length_append, List.length_cons, List.length_nil] at hlen
  have h3 := h2 i (List.mem_range.2 (by omega))
  have hd : l.drop i = 32 :: s ++ [32] ++ (l.drop i).drop (s.length + 2) := by rw [← hi, List.take_append_drop]
  have hd1 : l.drop (i + 1) = s ++ 32 :: (l.drop i).drop (s.length + 2) := by
   rw [← List.drop_drop, hd]
   simp
  have ht : (l.drop (i + 1)).takeWhile (fun b => decide (b ≠ 32)) = s := by
   rw [hd1, List.takeWhile_append_of_pos (fun b hm => by simpa using hb b hm), List.takeWhile_cons, if_neg (by simp), List.append_nil]
  rw [ht] at h3
  simp only [Bool.or_eq_true, decide_eq_true_eq] at h3
  have h32 : l[i]? = some 32 := by
   have := congrArg List.head? hd
   rw [List.head?_drop] at this
   exact this
  rcases h3 with (h3 | h3) | h3
  ·exact (h3 h32).elim
  ·exact (hne h3).elim
  ·exact h3
 ·intro hm
  have h3 := h1 s hm
  rw [Bool.and_eq_true, List.any_eq_true] at h3
  obtain ⟨h4, i, _, h5⟩ := h3
  exact ⟨of_decide_eq_true h4, i, of_decide_eq_true h5⟩

theorem bsub_list (s : ByteArray) (i m : Nat) : (bsub s (i : Int) ((i : Int) + (m : Int))).data.toList = (s.data.toList.drop i).take m := by
 rw [bsub_eq, ByteArray.data_extract, Array.toList_extract, List.extract_eq_take_drop]
 congr 1
 all_goals (try omega)

def noB (s : ByteArray) : Prop := ∀ b ∈ s.data.toList, b ≠ 32
def okW (list : ByteArray) (ws : List ByteArray) : Bool := okL list.data.toList (ws.map fun w => w.data.toList)

theorem in_w0 {s list : ByteArray} {b : Bool} (hin : (s.data.toList ≠ [] ∧ ∃ i, (list.data.toList.drop i).take (s.data.toList.length + 2) = 32 :: s.data.toList ++ [32]) ↔ b = true) (hl : list.size ≤ 100000) (hs : s.size ≤ 100000) {h : Heap} {Q : ARes → Prop} (hq : Q (.ret (.bool b) h)) :
  WCall Tryz.prog G X 27 [.string s, .string list] h Q := by
 have ls : s.data.toList.length = s.size := by simp
 have ll : list.data.toList.length = list.size := by simp
 have hT : ((⟨#[32]⟩ : ByteArray) ++ s ++ (⟨#[32]⟩ : ByteArray)).data.toList = 32 :: s.data.toList ++ [32] := by rw [ByteArray.data_append, ByteArray.data_append]; simp
 have s1 : ((⟨#[32]⟩ : ByteArray) ++ s).size = 1 + s.size := by rw [ByteArray.size_append]; rfl
 have s2 : ((⟨#[32]⟩ : ByteArray) ++ s ++ (⟨#[32]⟩ : ByteArray)).size = s.size + 2 := by rw [ByteArray.size_append, s1]; show 1 + s.size + 1 = _; omega
 have hmat : ∀ i : Nat, bsub list (i : Int) ((i : Int) + ((s.size + 2 : Nat) : Int)) = (⟨#[32]⟩ : ByteArray) ++ s ++ (⟨#[32]⟩ : ByteArray) ↔ (list.data.toList.drop i).take (s.data.toList.length + 2) = 32 :: s.data.toList ++ [32] := by
  intro i
  rw [← hT, ls, ← bsub_list]
  exact ⟨fun h => by rw [h], fun h => by rw [← of_list (bsub list (i : Int) ((i : Int) + ((s.size + 2 : Nat) : Int))), h, of_list]⟩
 refine WCall.walk hX Tryz.func27 rfl rfl Tryz.ntmps27 rfl ?_
 refine QN hX ?_;refine QK (Qb ?_);refine QO hX ?_;refine QK (Qa ?_);refine QK (Qh ?_);refine QK (Qh ?_);refine QK (Qb ?_);refine QL ?_;refine QU hX ?_;refine QN hX ?_;refine QK (Qb ?_);refine QL ?_;refine WC.block hX ?_
 generalize (⟨#[32]⟩ : ByteArray) ++ s ++ (⟨#[32]⟩ : ByteArray) = T at *
 refine WC.loopInv hX (α := Nat) (m := fun i => list.size + 1 - i) (Inv := fun i v h' => v 0 = some (.string s) ∧ v 1 = some (.string list) ∧ v 5 = some (.string T) ∧ v 6 = some (.int .i64 i) ∧ h' = h ∧ i ≤ list.size ∧ (s.data.toList ≠ [] → ∀ j, j < i → ¬ (list.data.toList.drop j).take (s.data.toList.length + 2) = 32 :: s.data.toList ++ [32]))
  0 ⟨rfl, rfl, rfl, rfl, rfl, by omega, fun _ j hj => by omega⟩ ?_
 rintro i v h' ih ⟨e0, e1, e5, e6, rfl, hi, hno⟩
 have hne : s ≠ (⟨#[]⟩ : ByteArray) ↔ s.data.toList ≠ [] := by
  constructor
  ·intro h e; exact h (by rw [← of_list s, e]; rfl)
  ·intro h e; exact h (by rw [e]; try rfl)
 refine QU hX ?_;refine QN hX ?_;refine QK (Qa ?_);refine QK (Qa ?_);refine QK (Qr ?_);refine QK (Qf ?_);refine QK (Qa ?_);refine QK (Qr ?_);refine QK (QG ?_ ?_);intro hh;refine QQ hX ?_;refine UA ?_;refine QU hX ?_;refine WC.block hX ?_;refine QN hX ?_;refine QK (Qa ?_);refine QK (QC ?_ ?_);intro hh;refine QK (Qa ?_);refine QK (Qa ?_);refine QK (Qa ?_);refine QK (Qa ?_);refine QK (Qa ?_);refine QK (Qr ?_);refine QK (Qf ?_);refine QK (WS.sliceS (hk := ?_));refine QK (Qa ?_);refine QK (QB ?_ ?_);intro hh;refine QK (Qc ?_);refine QQ hX ?_;refine QN hX ?_;refine QK (Qb ?_);refine QM ?_;rotate_left;intro hh;refine QK (Qc ?_);refine QP hX ?_;refine UA ?_;refine QV hX ?_;refine QK (Qa ?_);refine QK (Qf ?_);refine QK (Qb ?_);refine QL ?_;rotate_left;intro hh;refine QK (Qa ?_);refine QK (QA ?_);refine QK (QA ?_);refine QK (QA ?_);refine QK (QA ?_);refine QK (QA ?_);refine QK (QA ?_);refine QK (QA ?_);refine QK (QA ?_);refine QK (QA ?_);refine QK (Qd ?_);refine QP hX ?_;refine UA ?_;refine QV hX ?_;refine QK (Qa ?_);refine QK (Qf ?_);refine QK (Qb ?_);refine QL ?_;rotate_left;intro hh;refine QP hX ?_;refine WC.exit ?_;refine exit_here ?_;refine QN hX ?_;refine QK (Qb ?_);refine QM ?_;rotate_left
 ·rw [s2] at hh
  refine ⟨_, rfl, ret_bool ?_ hq⟩
  exact (hin.1 ⟨hne.1 ‹_›, i, (hmat i).1 hh⟩).symm
 ·rw [s2] at hh
  refine ih (i + 1) _ _ (by omega) ⟨e0, e1, e5, rfl, rfl, by omega, fun hx j hj => ?_⟩
  rcases Nat.lt_succ_iff_lt_or_eq.1 hj with hj | rfl
  ·exact hno hx j hj
  ·exact fun hc => hh ((hmat j).2 hc)
 ·refine ih (i + 1) _ _ (by omega) ⟨e0, e1, e5, rfl, rfl, by omega, fun hx j hj => ?_⟩
  exact (hh (hne.2 hx)).elim
 ·refine ⟨_, rfl, ret_bool ?_ hq⟩
  symm
  rw [← Bool.not_eq_true, ← hin]
  rintro ⟨hx, j, hj⟩
  have hlen := congrArg List.length hj
  simp only [List.length_take, List.length_drop, List.length_append, List.length_cons, List.length_nil] at hlen
  exact hno hx j (by omega) hj

theorem in_w {s list : ByteArray} {ws : List ByteArray} (hok : okW list ws = true) (hb : noB s) (hl : list.size ≤ 100000) (hs : s.size ≤ 100000) {h : Heap} {Q : ARes → Prop} (hq : Q (.ret (.bool (inS ws s)) h)) :
  WCall Tryz.prog G X 27 [.string s, .string list] h Q := by
 have hin := in_ok hok hb
 have hmem : s.data.toList ∈ ws.map (fun w => w.data.toList) ↔ inS ws s = true := by
  rw [inS_iff, List.mem_map]
  constructor
  ·rintro ⟨w, hw, he⟩
   rw [← of_list s, ← he, of_list]; exact hw
  ·exact fun hm => ⟨s, hm, rfl⟩
 rw [hmem] at hin
 exact in_w0 hin hl hs hq

theorem in_w32 {s list : ByteArray} {a : List UInt8} (hs2 : s.data.toList = a ++ [32]) (hok : (List.range list.data.toList.length).all (fun i => decide ((list.data.toList.drop i).take 2 ≠ [32, 32])) = true) (hl : list.size ≤ 100000) (hs : s.size ≤ 100000) {h : Heap} {Q : ARes → Prop} (hq : Q (.ret (.bool false) h)) :
  WCall Tryz.prog G X 27 [.string s, .string list] h Q := by
 refine in_w0 ⟨?_, fun h => by cases h⟩ hl hs hq
 rintro ⟨_, i, hi⟩
 exfalso
 have hlen := congrArg List.length hi
 rw [hs2] at hi hlen
 simp only [List.length_take, List.length_drop, List.length_append, List.length_cons, List.length_nil] at hi hlen
 have h2 : (list.data.toList.drop (i + (a.length + 1))).take 2 = [32, 32] := by
  rw [← List.drop_drop]
  have := congrArg (List.drop (a.length + 1)) hi
  rw [List.drop_take] at this
  rw [show a.length + (0 + 1) + 2 - (a.length + 1) = 2 by omega] at this
  rw [this]
  simp
 have h3 := List.all_eq_true.1 hok (i + (a.length + 1)) (List.mem_range.2 (by omega))
 exact of_decide_eq_true h3 h2

end Go.Proofs.ZL
