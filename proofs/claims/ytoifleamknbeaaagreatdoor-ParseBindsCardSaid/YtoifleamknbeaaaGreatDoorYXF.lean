/- ParseBinds: a file with a row of units in it is parsed to the row's tree. -/
import Derived.Test.YtoifleamknbeaaaGreatDoorYXE
open Go Go.Am
namespace Go.Proofs.ZL
set_option maxRecDepth 100000
set_option linter.unusedSimpArgs false
set_option linter.unusedVariables false

def Ex.dp : Ex → Nat
 | .nm _ => 0
 | .pr l _ r => l.dp + r.dp + 1

theorem ops_flat : (List.range 13).all (fun k => !inS opensB (opX k) && !inS closesB (opX k)) = true := by decide +kernel
theorem deep_op {k : Nat} (hk : k < 13) (X : List Tok) (n : Int) : deepGo (mt k :: X) n = deepGo X n := by
 have := List.all_eq_true.1 ops_flat k (List.mem_range.2 hk)
 rw [Bool.and_eq_true] at this
 have h1 : inS opensB (opX k) = false := by simpa using this.1
 have h2 : inS closesB (opX k) = false := by simpa using this.2
 simp only [deepGo, mt, h1, h2]
 simp
theorem deep_ex : ∀ (e : Ex), e.ok → ∀ (X : List Tok) (n : Int), 0 ≤ n → n + e.dp ≤ 40 → deepGo (e.bt ++ X) n = deepGo X n
 | .nm x, _, X, n, _, _ => rfl
 | .pr l k r, ⟨ol, hk, orr⟩, X, n, h0, h40 => by
  simp only [Ex.dp, Int.natCast_add] at h40
  have e : (Ex.pr l k r).bt ++ X = ⟨5, (⟨#[40]⟩ : ByteArray), 0, 0⟩ :: (l.bt ++ (mt k :: (r.bt ++ (⟨5, (⟨#[41]⟩ : ByteArray), 0, 0⟩ :: X)))) := by simp [Ex.bt]
  rw [e]
  have o1 : inS opensB (⟨#[40]⟩ : ByteArray) = true := by decide +kernel
  have o2 : inS opensB (⟨#[41]⟩ : ByteArray) = false := by decide +kernel
  have o3 : inS closesB (⟨#[41]⟩ : ByteArray) = true := by decide +kernel
  show (if (5 : Int) ≠ 5 then _ else if inS opensB (⟨#[40]⟩ : ByteArray) = true then (if 40 < n + 1 then _ else deepGo _ (n + 1)) else _) = _
  rw [if_neg (by omega), o1, if_pos rfl, if_neg (by omega), deep_ex l ol _ (n + 1) (by omega) (by omega), deep_op hk, deep_ex r orr _ (n + 1) (by omega) (by omega)]
  show (if (5 : Int) ≠ 5 then _ else if inS opensB (⟨#[41]⟩ : ByteArray) = true then _ else if inS closesB (⟨#[41]⟩ : ByteArray) = true then deepGo X (if n + 1 - 1 > 0 then n + 1 - 1 else 0) else _) = _
  rw [if_neg (by omega), o2, if_neg Bool.false_ne_true, o3, if_pos rfl]
  congr 1
  split <;> omega
theorem deep_row : ∀ (r : List (Nat × Ex)), rok r → ∀ (X : List Tok) (n : Int), 0 ≤ n → (∀ p ∈ r, n + p.2.dp ≤ 40) → deepGo (rt r ++ X) n = deepGo X n
 | [], _, X, n, _, _ => rfl
 | (k, e) :: r, hr, X, n, h0, h => by
  obtain ⟨hk, he⟩ := hr _ List.mem_cons_self
  rw [rt_cons, List.cons_append, List.append_assoc, deep_op hk, deep_ex e he _ n h0 (h _ List.mem_cons_self), deep_row r (fun p hp => hr p (List.mem_cons_of_mem _ hp)) X n h0 fun p hp => h p (List.mem_cons_of_mem _ hp)]
theorem deep_file {u : Ex} {r : List (Nat × Ex)} (hu : u.ok) (hr : rok r) (du : u.dp ≤ 39) (dr : ∀ p ∈ r, p.2.dp ≤ 39) : deepGo (rowT u r) 0 = none := by
 have e : deepGo (rowT u r) 0 = deepGo (u.bt ++ (rt r ++ sufT)) 1 := rfl
 rw [e, deep_ex u hu _ 1 (by omega) (by omega), deep_row r hr _ 1 (by omega) fun p hp => by have := dr p hp; omega]
 rfl

theorem bt_len : ∀ e : Ex, e.ok → e.nms → e.bt.length ≤ e.tx.length
 | .nm x, _, h => by
  obtain ⟨_, h2, _⟩ := h
  cases x with
  | nil => exact absurd h2 (by decide)
  | cons y Z => simp [Ex.bt, Ex.tx]
 | .pr l k r, ⟨ol, hk, orr⟩, ⟨nl, nr⟩ => by
  have h1 := bt_len l ol nl
  have h2 := bt_len r orr nr
  have h3 := List.length_pos_iff.2 (op_at2 hk).2.2.2.2
  simp only [Ex.bt, Ex.tx, List.length_cons, List.length_append, List.length_nil]
  omega
theorem rt_bytes : ∀ r : List (Nat × Ex), rok r → rnms r → (rt r).length ≤ (rtx r).length
 | [], _, _ => Nat.le_refl _
 | (k, e) :: r, hr, hn => by
  obtain ⟨hk, he⟩ := hr _ List.mem_cons_self
  have h1 := bt_len e he (hn _ List.mem_cons_self)
  have h2 := rt_bytes r (fun p hp => hr p (List.mem_cons_of_mem _ hp)) fun p hp => hn p (List.mem_cons_of_mem _ hp)
  have h3 : 0 < (opB k).length := List.length_pos_iff.2 (op_at2 hk).2.2.2.2
  rw [rt_cons]
  have e1 : rtx ((k, e) :: r) = opB k ++ (e.tx ++ rtx r) := by unfold rtx; rw [List.flatMap_cons, List.append_assoc]
  rw [e1]
  simp only [List.length_cons, List.length_append]
  omega

theorem tok_bares {L M : List Tok} (h : bares M = bares L) (i : Nat) : TokR (fun _ _ => True) (tokAt L i) (tokAt M i) := by
 have e : (tokAt M i).bare = (tokAt L i).bare := by
  have := congrArg (fun l => l.getD i ⟨6, (⟨#[]⟩ : ByteArray), 0, 0⟩) h
  have key : ∀ x : List Tok, (bares x).getD i ⟨6, (⟨#[]⟩ : ByteArray), 0, 0⟩ = (tokAt x i).bare := by
   intro x
   unfold bares tokAt
   rw [List.getD_eq_getElem?_getD, List.getD_eq_getElem?_getD, List.getElem?_map]
   cases x[i]? <;> rfl
  simp only [key] at this
  exact this
 refine ⟨(tokAt M i).pos, trivial, ?_⟩
 cases h1 : tokAt M i
 cases h2 : tokAt L i
 rw [h1, h2] at e
 simp only [Tok.bare, Tok.mk.injEq] at e
 simp [e]
theorem NdR.bare {P : Int → Int → Prop} {t t' : Nd} (h : NdR P t t') : bareN t = bareN t' := by
 induction h with
 | mk kind text num pos pos' typ ref kids kids' hp hl hk ih =>
  unfold bareN
  have : kids.map bareN = kids'.map bareN := by
   apply List.ext_getElem?
   intro i
   rw [List.getElem?_map, List.getElem?_map]
   rcases Nat.lt_or_ge i kids.length with h | h
   ·have h' : i < kids'.length := by omega
    rw [List.getElem?_eq_getElem h, List.getElem?_eq_getElem h', Option.map_some, Option.map_some, ih i _ _ (List.getElem?_eq_getElem h) (List.getElem?_eq_getElem h')]
   ·rw [List.getElem?_eq_none h, List.getElem?_eq_none (by omega)]
  rw [this]
theorem bt_bare : ∀ e : Ex, bares e.bt = e.bt
 | .nm x => rfl
 | .pr l k r => by
  have h1 := bt_bare l
  have h2 := bt_bare r
  unfold bares at h1 h2 ⊢
  simp only [Ex.bt, List.map_cons, List.map_append, h1, h2]
  rfl
theorem rt_bare : ∀ r : List (Nat × Ex), bares (rt r) = rt r
 | [] => rfl
 | (k, e) :: r => by
  rw [rt_cons]
  have h1 := bt_bare e
  have h2 := rt_bare r
  unfold bares at h1 h2 ⊢
  rw [List.map_cons, List.map_append, h1, h2]
  rfl
theorem rowT_bare (u : Ex) (r : List (Nat × Ex)) : bares (rowT u r) = rowT u r := by
 unfold rowT
 rw [bares_app, bares_app, bares_app, bt_bare, rt_bare]
 rfl

theorem row_law {u : Ex} {r : List (Nat × Ex)} {t : Nd} (hu : u.ok) (hr : rok r) (nu : u.nms) (nr : rnms r) (du : u.dp ≤ 39) (dr : ∀ p ∈ r, p.2.dp ≤ 39) (hsz : (u.tx ++ rtx r).length ≤ 8000) (h : Bnd 1 u.tr r t []) :
  (parseT (bts (rowB u r))).2.1 = 0 ∧ (parseT (bts (rowB u r))).2.2 = 0 ∧ bareN (parseT (bts (rowB u r))).1 = bareN (rowF t) := by
 obtain ⟨n, M, hs, hM⟩ := file_scan hu hr nu nr
 have hlen : (rowB u r).length ≤ 8192 := by
  unfold rowB preB
  simp only [List.length_append, List.length_cons, List.length_nil] at hsz ⊢
  omega
 have e := scanS_of (src := bts (rowB u r)) (by rw [bts_size]; exact hlen) (by rw [bts_list]; exact hs)
 have hdp := deepGo_bare M (rowT u r) 0 (by rw [hM, rowT_bare])
 rw [deep_file hu hr du dr] at hdp
 simp only [show SErr.ok.isOk = true from rfl, if_true] at e
 have h0 : (scanS (bts (rowB u r))).stage = 0 ∧ (scanS (bts (rowB u r))).toks = M := by
  cases hd : deepGo M 0 with
  | some p => rw [hd] at hdp; cases hdp
  | none => rw [hd] at e; rw [e]; exact ⟨rfl, rfl⟩
 obtain ⟨h0, hT⟩ := h0
 have hb1 := bt_len u hu nu
 have hb2 := rt_bytes r hr nr
 rw [List.length_append] at hsz
 obtain ⟨s, hf⟩ := file_row hu hr h (n := 199995) (by omega)
 have g : Alike (fun _ _ => True) (rowT u r) (scanS (bts (rowB u r))).toks 0 0 s.k := ⟨trivial, fun p => ⟨p, trivial⟩, fun i _ _ => by rw [Nat.zero_add, hT]; exact tok_bares (by rw [hM, rowT_bare]) i⟩
 have hbd := file_b g (m := 199995 + 5) false ⟨0, false⟩ (Nat.zero_le _)
 rw [hf] at hbd
 obtain ⟨x, hx, hv⟩ := hbd.2.2.2 (Nat.le_refl _)
 have hp := (parseN_some (bts (rowB u r))).1
 unfold parseN at hp
 rw [if_neg (fun e => e h0)] at hp
 rw [show St.sh 0 ⟨0, false⟩ = ⟨0, false⟩ from rfl, show 199995 + 5 = 200000 from rfl] at hx
 rw [hx] at hp
 rw [← Option.some.inj hp]
 exact ⟨rfl, rfl, hv.bare.symm⟩
end Go.Proofs.ZL
