/- The lexer on lists; the document's lexer. -/
import Derived.Test.YtoifleamknbeaaaGreatDoorYL3
import Derived.Test.YtoifleamknbeaaaGreatDoorYU1
section
open Go Go.Am
namespace Go.Proofs.ZL
set_option maxRecDepth 100000
set_option linter.unusedSimpArgs false
set_option linter.unusedVariables false
set_option maxHeartbeats 4000000
variable {h : aE} {Q : bW → Prop} {L : List Tok} {p : Nat} {src : ByteArray}
def hd (r : List UInt8) : Int := ((r.head?.getD 0).toNat : Int)
def pL (r : List UInt8) : ByteArray := ⟨r.toArray⟩
def gD (p : Int → Bool) (r : List UInt8) : Nat := (r.takeWhile fun b => p b.toNat).length

def zJ (r : List UInt8) (k : Nat) (l : List Tok) : Out :=
 if 24 < gD cI r then ⟨.pW ⟨#[97, 32, 110, 97, 109, 101]⟩ k, k, l⟩
 else ⟨.ok, k + gD cI r, l ++ [⟨if dE words (pL (r.take (gD cI r))) then 4 else 1, pL (r.take (gD cI r)), 0, k⟩]⟩
def rF (r : List UInt8) (k : Nat) (l : List Tok) : Out :=
 if 18 < gD bC r then ⟨.pW ⟨#[97, 32, 110, 117, 109, 98, 101, 114]⟩ k, k, l⟩
 else if 1 < gD bC r ∧ hd r = 48 then ⟨.stuck k, k, l⟩
 else if gD bC r < r.length ∧ cQ (hd (r.drop (gD bC r))) = true then ⟨.stuck (k + gD bC r), k, l⟩
 else ⟨.ok, k + gD bC r, l ++ [⟨2, pL (r.take (gD bC r)), uP (r.take (gD bC r)) 0, k⟩]⟩
def dM (k : Nat) (l : List Tok) : List UInt8 → Nat → List Int → Out
 | [], i, _ => ⟨.stuck i, k, l⟩
 | [c], i, out =>
  if (c.toNat : Int) = 34 then (if 256 < out.length then ⟨.pW ⟨#[97, 32, 116, 101, 120, 116]⟩ k, k, l⟩ else ⟨.ok, i + 1, l ++ [⟨3, strOf out, 0, k⟩]⟩)
  else if (c.toNat : Int) = 92 then ⟨.stuck i, k, l⟩
  else if (c.toNat : Int) < 32 ∨ 126 < (c.toNat : Int) then ⟨.stuck i, k, l⟩
  else ⟨.stuck (i + 1), k, l⟩
 | c :: d :: r, i, out =>
  if (c.toNat : Int) = 34 then (if 256 < out.length then ⟨.pW ⟨#[97, 32, 116, 101, 120, 116]⟩ k, k, l⟩ else ⟨.ok, i + 1, l ++ [⟨3, strOf out, 0, k⟩]⟩)
  else if (c.toNat : Int) = 92 then
   (if (d.toNat : Int) = 110 ∨ (d.toNat : Int) = 34 ∨ (d.toNat : Int) = 92 then dM k l r (i + 2) (out ++ [if (d.toNat : Int) = 110 then 10 else (d.toNat : Int)]) else ⟨.stuck i, k, l⟩)
  else if (c.toNat : Int) < 32 ∨ 126 < (c.toNat : Int) then ⟨.stuck i, k, l⟩
  else dM k l (d :: r) (i + 1) (out ++ [(c.toNat : Int)])
def rB (r : List UInt8) : List UInt8 :=
 if 2 ≤ r.length ∧ dE marks (pL (r.take 2)) = true then r.take 2 else if 1 ≤ r.length ∧ dE marks (pL (r.take 1)) = true then r.take 1 else []
def jJ (r : List UInt8) (k : Nat) (l : List Tok) : Out :=
 if hd r = 32 ∨ hd r = 9 then ⟨.ok, k + 1, l⟩
 else if hd r = 10 then ⟨.ok, k + 1, eJ k l⟩
 else if r.take 2 = [47, 47] then ⟨.ok, k + gD fM r, l⟩
 else if cQ (hd r) then zJ r k l
 else if bC (hd r) then rF r k l
 else if hd r = 34 then dM k l r.tail (k + 1) []
 else if rB r = [] then ⟨.stuck k, k, l⟩
 else ⟨.ok, k + (rB r).length, l ++ [⟨5, pL (rB r), 0, k⟩]⟩

def oN (src : ByteArray) (k : Nat) : List UInt8 := src.data.toList.drop k
theorem rY (src : ByteArray) (k : Nat) : (oN src k).length = src.size - k := by
 unfold oN; rw [List.length_drop]; simp
theorem o0 (src : ByteArray) (k : Nat) : aT src (k : Int) = hd (oN src k) := by
 unfold aT hd oN
 rw [List.getD_eq_getElem?_getD, Int.toNat_natCast, List.head?_drop]
theorem o6 (src : ByteArray) (k n : Nat) : (oN src k).drop n = oN src (k + n) := by
 unfold oN; rw [List.drop_drop]
theorem xP (src : ByteArray) (k n : Nat) : sub src k n = pL ((oN src k).take n) := by
 apply ByteArray.ext
 apply Array.toList_inj.1
 rw [sub_eq, ByteArray.data_extract, Array.toList_extract, List.extract_eq_take_drop]
 show _ = ((oN src k).take n)
 unfold oN
 rw [show k + n - k = n by omega]
theorem vE {k : Nat} : rest src k = pL (oN src k) := by
 unfold rest
 rw [rJ]
 apply ByteArray.ext
 apply Array.toList_inj.1
 rw [ByteArray.data_extract, Array.toList_extract, List.extract_eq_take_drop]
 show _ = oN src k
 unfold oN
 simp only [Int.toNat_natCast]
 rw [List.take_of_length_le (by rw [List.length_drop]; simp)]
theorem qY (r : List UInt8) : (pL r).size = r.length := by
 show (pL r).data.size = _
 simp [pL]
theorem tW (r : List UInt8) : (pL r).data.toList = r := by simp [pL]
theorem tR (r : List UInt8) (n : Nat) : gR (pL r) 0 (n : Int) = pL (r.take n) := by
 rw [rJ]
 apply ByteArray.ext
 apply Array.toList_inj.1
 rw [ByteArray.data_extract, Array.toList_extract, List.extract_eq_take_drop]
 simp [pL]
theorem aBn {a b : List UInt8} (h : pL a = pL b) : a = b := by
 have := congrArg (fun x => x.data.toList) h
 simpa [pL] using this
theorem rP (s : ByteArray) : pL s.data.toList = s := by
 apply ByteArray.ext; simp [pL]

theorem zS {k : Nat} : kT src k = decide ((oN src k).take 2 = [47, 47]) := by
 unfold kT
 rw [vE, qY, show (((⟨#[47, 47]⟩ : ByteArray).size : Nat) : Int) = ((2 : Nat) : Int) from rfl, tR, decide_eq_decide]
 have e : ⟨#[47, 47]⟩ = pL [47, 47] := rfl
 rw [e]
 constructor
 ·intro h; exact aBn h.2
 ·intro h
  refine ⟨?_, congrArg pL h⟩
  have := congrArg List.length h
  rw [List.length_take] at this
  show 2 ≤ _
  simp only [List.length_cons, List.length_nil] at this
  omega
theorem aAx (r : List UInt8) : bY (pL r) = pL (rB r) := by
 unfold bY rB
 rw [qY, show (2 : Int) = ((2 : Nat) : Int) from rfl, show (1 : Int) = ((1 : Nat) : Int) from rfl, tR, tR]
 split
 ·rfl
 ·split <;> rfl
theorem nY {k : Nat} {l : List Tok} : ∀ (m i : Nat) (out : List Int), i ≤ src.size → src.size < i + m → dT src k l m i out = dM k l (oN src i) i out
 | 0, i, out, h1, h2 => by omega
 | m + 1, i, out, h1, h2 => by
  have hlen := rY src i
  have hb := o0 src i
  have hb1 := o0 src (i + 1)
  have hd1 := o6 src i 1
  have hd2 := o6 src i 2
  generalize hr : oN src i = r at *
  unfold dT
  match r, hlen, hb, hd1, hd2 with
  | [], hlen, hb, hd1, hd2 =>
   simp only [List.length_nil] at hlen
   rw [if_pos (by omega), show src.size = i by omega]; rfl
  | [c], hlen, hb, hd1, hd2 =>
   simp only [List.length_cons, List.length_nil] at hlen
   have hbc : aT src (i : Int) = (c.toNat : Int) := hb.trans rfl
   rw [if_neg (by omega), hbc]
   unfold dM
   by_cases c1 : (c.toNat : Int) = 34
   ·rw [if_pos c1, if_pos c1]
   rw [if_neg c1, if_neg c1]
   by_cases c2 : (c.toNat : Int) = 92
   ·rw [if_pos c2, if_pos c2, if_neg (by omega)]
   rw [if_neg c2, if_neg c2]
   by_cases c3 : (c.toNat : Int) < 32 ∨ 126 < (c.toNat : Int)
   ·rw [if_pos c3, if_pos c3]
   ·rw [if_neg c3, if_neg c3, nY m (i + 1) _ (by omega) (by omega), ← hd1]; rfl
  | c :: d :: r, hlen, hb, hd1, hd2 =>
   simp only [List.length_cons] at hlen
   have hbc : aT src (i : Int) = (c.toNat : Int) := hb.trans rfl
   rw [if_neg (by omega), hbc]
   have hb1' : aT src ((i + 1 : Nat) : Int) = (d.toNat : Int) := by rw [hb1, ← hd1]; rfl
   unfold dM
   rw [hb1']
   by_cases c1 : (c.toNat : Int) = 34
   ·rw [if_pos c1, if_pos c1]
   rw [if_neg c1, if_neg c1]
   by_cases c2 : (c.toNat : Int) = 92
   ·rw [if_pos c2, if_pos c2]
    by_cases hx : (d.toNat : Int) = 110 ∨ (d.toNat : Int) = 34 ∨ (d.toNat : Int) = 92
    ·rw [if_pos ⟨by omega, hx⟩, if_pos hx, nY m (i + 2) _ (by omega) (by omega), ← hd2]; rfl
    ·rw [if_neg (by intro h; exact hx h.2), if_neg hx]
   rw [if_neg c2, if_neg c2]
   by_cases c3 : (c.toNat : Int) < 32 ∨ 126 < (c.toNat : Int)
   ·rw [if_pos c3, if_pos c3]
   ·rw [if_neg c3, if_neg c3, nY m (i + 1) _ (by omega) (by omega), ← hd1]; rfl

theorem sB {k : Nat} {l : List Tok} (hk : k < src.size) : cA src k l = jJ (oN src k) k l := by
 have hb := o0 src k
 have hsl := zS (src := src) (k := k)
 have hm : bY (rest src k) = pL (rB (oN src k)) := by rw [vE, aAx]
 unfold cA jJ
 rw [hb, hsl, hm]
 simp only [decide_eq_true_eq]
 have hR : ∀ p : Int → Bool, runN p src k = gD p (oN src k) := fun p => rfl
 split
 ·rfl
 split
 ·rfl
 split
 ·rw [hR]
 split
 ·unfold l4 zJ; rw [hR, xP]
 split
 ·rename_i hdg
  unfold cM rF
  rw [hR, xP]
  have hrun : 1 ≤ gD bC (oN src k) := by
   rw [← hR]; exact m9 hk (by rw [hb]; exact hdg)
  have h0 : aT (pL ((oN src k).take (gD bC (oN src k)))) 0 = hd (oN src k) := by
   have := o0 (pL ((oN src k).take (gD bC (oN src k)))) 0
   rw [show ((0 : Nat) : Int) = (0 : Int) from rfl] at this
   rw [this]
   unfold oN hd
   rw [tW, List.drop_zero]
   have hn' : 1 ≤ gD bC (src.data.toList.drop k) := hrun
   generalize List.drop k src.data.toList = r at *
   obtain ⟨n, hn⟩ : ∃ n, gD bC r = n + 1 := ⟨gD bC r - 1, by omega⟩
   rw [hn]
   cases r <;> rfl
  have h1 : aT src ((k : Int) + (gD bC (oN src k) : Int)) = hd ((oN src k).drop (gD bC (oN src k))) := by
   rw [o6, ← o0, Int.natCast_add]
  have h2 : k + gD bC (oN src k) < src.size ↔ gD bC (oN src k) < (oN src k).length := by rw [rY]; omega
  rw [h0, h1]
  simp only [h2, numOf, tW]
 split
 ·unfold rL
  rw [nY (src.size + 1) (k + 1) [] (by omega) (by omega)]
  congr 1
  rw [← o6, List.drop_one]
 have he : pL (rB (oN src k)) = ⟨#[]⟩ ↔ rB (oN src k) = [] := ⟨fun h => aBn (b := []) h, fun h => by rw [h]; rfl⟩
 simp only [he, qY]

inductive gF : List UInt8 → Nat → List Tok → Out → Prop
 | done (k : Nat) (l : List Tok) : gF [] k l ⟨.ok, k, eJ k l ++ [⟨6, ⟨#[]⟩, 0, k⟩]⟩
 | fail {r : List UInt8} {k : Nat} {l : List Tok} : r ≠ [] → (jJ r k l).err.isOk = false → gF r k l (jJ r k l)
 | step {r : List UInt8} {k : Nat} {l : List Tok} {o : Out} (n : Nat) (l' : List Tok) : 0 < n → n ≤ r.length → jJ r k l = ⟨.ok, k + n, l'⟩ → gF (r.drop n) (k + n) l' o → gF r k l o

theorem gF.jE {r : List UInt8} {k : Nat} {l : List Tok} {o : Out} (h : gF r k l o) : ∀ m, k ≤ src.size → src.size < k + m → oN src k = r → jE src m k l = o := by
 induction h with
 | done k l =>
  intro m h1 h2 hr
  have := rY src k
  rw [hr] at this
  obtain ⟨m, rfl⟩ : ∃ j, m = j + 1 := ⟨m - 1, by omega⟩
  unfold ZL.jE
  rw [if_pos (by simp at this; omega)]
 | @fail r k l hne he =>
  intro m h1 h2 hr
  have := rY src k
  rw [hr] at this
  have : 0 < r.length := List.length_pos_iff.2 hne
  obtain ⟨m, rfl⟩ : ∃ j, m = j + 1 := ⟨m - 1, by omega⟩
  unfold ZL.jE
  rw [if_neg (by omega), sB (by omega), hr, he]; rfl
 | @step r k l o n l' h0 hn he hs ih =>
  intro m h1 h2 hr
  have := rY src k
  rw [hr] at this
  obtain ⟨m, rfl⟩ : ∃ j, m = j + 1 := ⟨m - 1, by omega⟩
  unfold ZL.jE
  rw [if_neg (by omega), sB (by omega), hr, he]
  simp only [c8.isOk, if_true]
  exact ih m (by omega) (by omega) (by rw [← o6, hr])

theorem gF.nT {o : Out} (h : gF src.data.toList 0 [] o) : nT src = o := by
 unfold ZL.nT
 exact h.jE _ (by omega) (by omega) (by unfold oN; rw [List.drop_zero])

theorem aEf {r : List UInt8} {k : Nat} {l : List Tok} (hr : r ≠ []) (h : (jJ r k l).err.isOk = true) : ∃ n l', 0 < n ∧ n ≤ r.length ∧ jJ r k l = ⟨.ok, k + n, l'⟩ ∧ l'.length ≤ l.length + 1 := by
 -- by way of a source whose rest it is
 let src : ByteArray := pL (List.replicate k 0 ++ r)
 have hrst : oN src k = r := by
  show ((pL (List.replicate k 0 ++ r)).data.toList).drop k = r
  rw [tW, List.drop_left' (by simp)]
 have hz : src.size = k + r.length := by
  show (pL (List.replicate k 0 ++ r)).size = _
  rw [qY]; simp
 have hlen : 0 < r.length := List.length_pos_iff.2 hr
 have he : cA src k l = jJ r k l := by rw [sB (by omega), hrst]
 rw [← he] at h ⊢
 have hx := nB (by omega) h
 refine ⟨(cA src k l).pos - k, (cA src k l).list, by omega, by omega, ?_, hx.2.2⟩
 rw [show k + ((cA src k l).pos - k) = (cA src k l).pos by omega]
 have := aJe h
 generalize cA src k l = x at *
 cases x; simp only at this; rw [this]

theorem gF.total : ∀ (m : Nat) (r : List UInt8) (k : Nat) (l : List Tok), r.length ≤ m → ∃ o, gF r k l o
 | m, [], k, l, _ => ⟨_, .done k l⟩
 | 0, a :: r, k, l, h => by simp at h
 | m + 1, a :: r, k, l, h => by
  cases he : (jJ (a :: r) k l).err.isOk with
  | false => exact ⟨_, .fail (by simp) he⟩
  | true =>
   obtain ⟨n, l', h0, hn, hx, _⟩ := aEf (by simp) he
   obtain ⟨o, ho⟩ := gF.total m ((a :: r).drop n) (k + n) l' (by rw [List.length_drop]; omega)
   exact ⟨o, .step n l' h0 hn hx ho⟩

theorem aFb {o : Out} (hz : src.size ≤ 8192) (h : gF src.data.toList 0 [] o) :
  cO src = if o.err.isOk then (match fD o.list 0 with | some p => ⟨[], 3, p⟩ | none => ⟨o.list, 0, 0⟩) else ⟨[], 2, o.err.pos⟩ := by
 unfold cO
 rw [if_neg (by omega), h.nT]
 by_cases he : o.err.isOk = true
 ·rw [if_pos he, if_pos he]; cases fD o.list 0 <;> rfl
 ·rw [if_neg he, if_neg he]

def okL (l : List UInt8) (ws : List (List UInt8)) : Bool :=
 ws.all (fun s => decide (s ≠ []) && (List.range l.length).any fun i => decide ((l.drop i).take (s.length + 2) = 32 :: s ++ [32])) &&
 (List.range l.length).all fun i => decide (l[i]? ≠ some 32) || decide ((l.drop (i + 1)).takeWhile (fun b => decide (b ≠ 32)) = []) || decide ((l.drop (i + 1)).takeWhile (fun b => decide (b ≠ 32)) ∈ ws)

theorem aLw {l : List UInt8} {ws : List (List UInt8)} (h : okL l ws = true) {s : List UInt8} (hb : ∀ b ∈ s, b ≠ 32) : (s ≠ [] ∧ ∃ i, (l.drop i).take (s.length + 2) = 32 :: s ++ [32]) ↔ s ∈ ws := by
 unfold okL at h
 rw [Bool.and_eq_true, List.all_eq_true, List.all_eq_true] at h
 obtain ⟨h1, h2⟩ := h
 constructor
 ·rintro ⟨hne, i, hi⟩
  have hlen := congrArg List.length hi
  simp only [List.length_take, List.length_drop, List.length_append, List.length_cons, List.length_nil] at hlen
  have h3 := h2 i (List.mem_range.2 (by omega))
  have hd : l.drop i = 32 :: s ++ [32] ++ (l.drop i).drop (s.length + 2) := by rw [← hi, List.take_append_drop]
  have hd1 : l.drop (i + 1) = s ++ 32 :: (l.drop i).drop (s.length + 2) := by
   rw [← List.drop_drop, hd]
   simp
  have ht : (l.drop (i + 1)).takeWhile (fun b => decide (b ≠ 32)) = s := by
   rw [hd1, List.takeWhile_append_of_pos (fun b hm => by simpa using hb b hm), List.takeWhile_cons, if_neg (by simp), List.append_nil]
  rw [ht] at h3
  simp only [Bool.or_eq_true, decide_eq_true_eq] at h3
  have h32 : l[i]? = some 32 := by
   have := congrArg List.head? hd
   rw [List.head?_drop] at this
   exact this
  rcases h3 with (h3 | h3) | h3
  ·exact (h3 h32).elim
  ·exact (hne h3).elim
  ·exact h3
 ·intro hm
  have h3 := h1 s hm
  rw [Bool.and_eq_true, List.any_eq_true] at h3
  obtain ⟨h4, i, _, h5⟩ := h3
  exact ⟨of_decide_eq_true h4, i, of_decide_eq_true h5⟩

theorem aCn (s : ByteArray) (i m : Nat) : (gR s (i : Int) ((i : Int) + (m : Int))).data.toList = (s.data.toList.drop i).take m := by
 rw [rJ, ByteArray.data_extract, Array.toList_extract, List.extract_eq_take_drop]
 congr 1
 all_goals (try omega)

def noB (s : ByteArray) : Prop := ∀ b ∈ s.data.toList, b ≠ 32
def okW (list : ByteArray) (ws : List ByteArray) : Bool := okL list.data.toList (ws.map fun w => w.data.toList)

theorem aIk {s list : ByteArray} {b : Bool} (hin : (s.data.toList ≠ [] ∧ ∃ i, (list.data.toList.drop i).take (s.data.toList.length + 2) = 32 :: s.data.toList ++ [32]) ↔ b = true) (hl : list.size ≤ 100000) (hs : s.size ≤ 100000) {h : aE} {Q : bW → Prop} (hq : Q (.ret (.bool b) h)) :
  aP Tryz.prog G X 27 [.string s, .string list] h Q := by
 have ls : s.data.toList.length = s.size := by simp
 have ll : list.data.toList.length = list.size := by simp
 have hT : (⟨#[32]⟩ ++ s ++ ⟨#[32]⟩).data.toList = 32 :: s.data.toList ++ [32] := by rw [ByteArray.data_append, ByteArray.data_append]; simp
 have s1 : (⟨#[32]⟩ ++ s).size = 1 + s.size := by rw [ByteArray.size_append]; rfl
 have s2 : (⟨#[32]⟩ ++ s ++ ⟨#[32]⟩).size = s.size + 2 := by rw [ByteArray.size_append, s1]; show 1 + s.size + 1 = _; omega
 have hmat : ∀ i : Nat, gR list (i : Int) ((i : Int) + ((s.size + 2 : Nat) : Int)) = ⟨#[32]⟩ ++ s ++ ⟨#[32]⟩ ↔ (list.data.toList.drop i).take (s.data.toList.length + 2) = 32 :: s.data.toList ++ [32] := by
  intro i
  rw [← hT, ls, ← aCn]
  exact ⟨fun h => by rw [h], fun h => by rw [← rP (gR list (i : Int) ((i : Int) + ((s.size + 2 : Nat) : Int))), h, rP]⟩
 refine Wk Tryz.func27 Tryz.ntmps27 (w:=QN (Mb (w:=QO (Ma (w:=Mh (w:=Mh (w:=Mb (w:=QL (QU (QN (Mb (w:=QL (Bk ?_)))))))))))))
 generalize ⟨#[32]⟩ ++ s ++ ⟨#[32]⟩ = T at *
 refine WC.bK hX (α := Nat) (m := fun i => list.size + 1 - i) (Inv := fun i v h' => v 0 = some (.string s) ∧ v 1 = some (.string list) ∧ v 5 = some (.string T) ∧ v 6 = some (.int .i64 i) ∧ h' = h ∧ i ≤ list.size ∧ (s.data.toList ≠ [] → ∀ j, j < i → ¬ (list.data.toList.drop j).take (s.data.toList.length + 2) = 32 :: s.data.toList ++ [32]))
  0 ⟨rfl, rfl, rfl, rfl, rfl, by omega, fun _ j hj => by omega⟩ ?_
 rintro i v h' ih ⟨e0, e1, e5, e6, rfl, hi, hno⟩
 have hne : s ≠ ⟨#[]⟩ ↔ s.data.toList ≠ [] := by
  constructor
  ·intro h e; exact h (by rw [← rP s, e]; rfl)
  ·intro h e; exact h (by rw [e]; try rfl)
 refine QU (QN (Ma (w:=Ma (w:=Mr (w:=Mf (w:=Ma (w:=Mr (w:=MG (w:=fun hh => QQ (UA (QU (Bk (QN (Ma (w:=MC (w:=fun hh => Ma (w:=Ma (w:=Ma (w:=Ma (w:=Ma (w:=Mr (w:=Mf (w:=?_)))))))) (v:=?_)))))))) (v:=?_)))))))));refine QK (WS.fU (hk := ?_));refine Ma (w:=MB (w:=fun hh => Mc (w:=QQ (QN (Mb (w:=QM ?_))))) (v:=?_));rotate_left;intro hh;refine Mc (w:=QP (UA (QV (Ma (w:=Mf (w:=Mb (w:=QL ?_)))))));rotate_left;intro hh;refine Ma (w:=MA (w:=MA (w:=MA (w:=MA (w:=MA (w:=MA (w:=MA (w:=MA (w:=MA (w:=Md (w:=QP (UA (QV (Ma (w:=Mf (w:=Mb (w:=QL ?_)))))))))))))))));rotate_left;intro hh;refine QP (WC.exit (aG (QN (Mb (w:=QM ?_)))));rotate_left
 ·rw [s2] at hh
  refine ⟨_, rfl, cF ?_ hq⟩
  exact (hin.1 ⟨hne.1 ‹_›, i, (hmat i).1 hh⟩).symm
 ·rw [s2] at hh
  refine ih (i + 1) _ _ (by omega) ⟨e0, e1, e5, rfl, rfl, by omega, fun hx j hj => ?_⟩
  rcases Nat.lt_succ_iff_lt_or_eq.1 hj with hj | rfl
  ·exact hno hx j hj
  ·exact fun hc => hh ((hmat j).2 hc)
 ·refine ih (i + 1) _ _ (by omega) ⟨e0, e1, e5, rfl, rfl, by omega, fun hx j hj => ?_⟩
  exact (hh (hne.2 hx)).elim
 ·refine ⟨_, rfl, cF ?_ hq⟩
  symm
  rw [← Bool.not_eq_true, ← hin]
  rintro ⟨hx, j, hj⟩
  have hlen := congrArg List.length hj
  simp only [List.length_take, List.length_drop, List.length_append, List.length_cons, List.length_nil] at hlen
  exact hno hx j (by omega) hj

theorem tC {s list : ByteArray} {ws : List ByteArray} (hok : okW list ws = true) (hb : noB s) (hl : list.size ≤ 100000) (hs : s.size ≤ 100000) {h : aE} {Q : bW → Prop} (hq : Q (.ret (.bool (dE ws s)) h)) :
  aP Tryz.prog G X 27 [.string s, .string list] h Q := by
 have hin := aLw hok hb
 have hmem : s.data.toList ∈ ws.map (fun w => w.data.toList) ↔ dE ws s = true := by
  rw [bL, List.mem_map]
  constructor
  ·rintro ⟨w, hw, he⟩
   rw [← rP s, ← he, rP]; exact hw
  ·exact fun hm => ⟨s, hm, rfl⟩
 rw [hmem] at hin
 exact aIk hin hl hs hq

theorem aJo {s list : ByteArray} {a : List UInt8} (hs2 : s.data.toList = a ++ [32]) (hok : (List.range list.data.toList.length).all (fun i => decide ((list.data.toList.drop i).take 2 ≠ [32, 32])) = true) (hl : list.size ≤ 100000) (hs : s.size ≤ 100000) {h : aE} {Q : bW → Prop} (hq : Q (.ret (.bool false) h)) :
  aP Tryz.prog G X 27 [.string s, .string list] h Q := by
 refine aIk ⟨?_, fun h => by cases h⟩ hl hs hq
 rintro ⟨_, i, hi⟩
 exfalso
 have hlen := congrArg List.length hi
 rw [hs2] at hi hlen
 simp only [List.length_take, List.length_drop, List.length_append, List.length_cons, List.length_nil] at hi hlen
 have h2 : (list.data.toList.drop (i + (a.length + 1))).take 2 = [32, 32] := by
  rw [← List.drop_drop]
  have := congrArg (List.drop (a.length + 1)) hi
  rw [List.drop_take] at this
  rw [show a.length + (0 + 1) + 2 - (a.length + 1) = 2 by omega] at this
  rw [this]
  simp
 have h3 := List.all_eq_true.1 hok (i + (a.length + 1)) (List.mem_range.2 (by omega))
 exact of_decide_eq_true h3 h2

theorem pS {c : Int} (hq : Q (.ret (.bool (cQ c)) h)) : aP Tryz.prog G X 43 [.int .u8 c] h Q := by
 refine Wk Tryz.func43 Tryz.ntmps43 (w:=QN (Mb (w:=QO (Ma (w:=MI (w:=fun hh => Ma (w:=Ma (w:=MG (w:=fun hh => Mc (w:=Ma (w:=MA (w:=MA (w:=MA (w:=MA (w:=MA (w:=MA (w:=Mc (w:=Ma (w:=MA (w:=MA (w:=Mc (w:=Mb (w:=QM ?_))))))))))))))) (v:=fun hh => Mc (w:=Ma (w:=Ma (w:=MI (w:=fun hh => Ma (w:=Ma (w:=MG (w:=fun hh => by omega) (v:=fun hh => Mc (w:=Md (w:=Ma (w:=Ma (w:=MD (w:=fun hh => by omega) (v:=fun hh => Md (w:=Mb (w:=QM ?_))))))))))) (v:=fun hh => by omega)))))))) (v:=fun hh => Ma (w:=MA (w:=MA (w:=Md (w:=Ma (w:=Ma (w:=MI (w:=fun hh => Ma (w:=Ma (w:=MG (w:=fun hh => Mc (w:=Md (w:=Ma (w:=MA (w:=MA (w:=Mc (w:=Mb (w:=QM ?_)))))))) (v:=fun hh => Mc (w:=Md (w:=Ma (w:=Ma (w:=MD (w:=fun hh => Md (w:=Mb (w:=QM ?_))) (v:=fun hh => Md (w:=Mb (w:=QM ?_))))))))))) (v:=fun hh => Ma (w:=MA (w:=MA (w:=Md (w:=Md (w:=Ma (w:=Ma (w:=MD (w:=fun hh => by omega) (v:=fun hh => Md (w:=Mb (w:=QM ?_)))))))))))))))))))))))
 all_goals (refine ⟨_, rfl, cF ?_ hq⟩; unfold cQ; symm; first | (rw [decide_eq_true_eq]; omega) | (rw [decide_eq_false_iff_not]; omega))

theorem vC {c : Int} (hq : Q (.ret (.bool (bC c)) h)) : aP Tryz.prog G X 45 [.int .u8 c] h Q := by
 refine Wk Tryz.func45 Tryz.ntmps45 (w:=QN (Mb (w:=QO (Ma (w:=MI (w:=fun hh => Ma (w:=Ma (w:=MG (w:=fun hh => Mc (w:=Mb (w:=QM ?_))) (v:=fun hh => Mc (w:=Mb (w:=QM ?_)))))) (v:=fun hh => Ma (w:=MA (w:=MA (w:=Md (w:=Mb (w:=QM ?_)))))))))))
 all_goals (refine ⟨_, rfl, cF ?_ hq⟩; unfold bC; symm; first | (rw [decide_eq_true_eq]; omega) | (rw [decide_eq_false_iff_not]; omega))

theorem aG9 {k : Nat} (hk : k ≤ src.size) (hz : src.size ≤ 100000) {h : aE} {Q : bW → Prop} (hq : Q (.ret (.int .i64 ((k + runN cI src k : Nat) : Int)) h)) : aP Tryz.prog G X 44 [.string src, .int .i64 k] h Q := by
 refine Wk Tryz.func44 Tryz.ntmps44 (w:=QN (Mb (w:=QL (QU (Bk ?_)))))
 refine WC.bK hX (α := Nat) (m := fun i => src.size - i) (Inv := fun i v h' => v 0 = some (.string src) ∧ v 1 = some (.int .i64 ((k + i : Nat) : Int)) ∧ h' = h ∧ k + i ≤ src.size ∧ ∀ j, j < i → cI (aT src ((k + j : Nat) : Int)) = true)
  0 ⟨rfl, rfl, rfl, by omega, fun j hj => by omega⟩ ?_
 rintro i v h' ih ⟨e0, e1, rfl, hi, hall⟩
 have step : ∀ {v : Env}, cI (aT src ((k + i : Nat) : Int)) = true → k + i < src.size → v 0 = some (.string src) → v 1 = some (.int .i64 ((k + i : Nat) + 1 : Int)) → _ := fun {v} ha hlt e0 e1 => ih (i + 1) v h' (by omega) ⟨e0, by rw [e1]; congr 2, rfl, by omega, fun j hj => by
  rcases Nat.lt_succ_iff_lt_or_eq.1 hj with hj | rfl
  ·exact hall j hj
  ·exact ha⟩
 have stop : (k + i < src.size → cI (aT src ((k + i : Nat) : Int)) = false) → runN cI src k = i := fun hs => qR hall hi hs
 by_cases hlt : k + i < src.size
 ·refine QU (QN (Ma (w:=Ma (w:=Mr (w:=MF (w:=fun hh => Ma (w:=Ma (w:=Ma (w:=Mm (w:=MJ aHb (w:=pS ?_)))))) (v:=fun hh => by omega))))))
  cases hL : cQ (aT src ((k + i : Nat) : Int))
  ·refine Ma (w:=Ma (w:=Ma (w:=Mm (w:=MJ aJl (w:=vC ?_)))))
   cases hD : bC (aT src ((k + i : Nat) : Int))
   ·refine Md (w:=Mc (w:=QP (WC.exit (aG (QN (Ma (w:=Mb (w:=QM ?_))))))))
    refine ⟨_, aJ, ?_⟩
    rw [stop (fun _ => by unfold cI; rw [hL, hD]; rfl)] at hq
    exact hq
   ·refine Md (w:=Mc (w:=QQ (UA (Bk (QV (Ma (w:=Mf (w:=Mb (w:=QL ?_)))))))))
    exact step (by unfold cI; rw [hL, hD]; rfl) hlt e0 rfl
  ·refine Ma (w:=MA (w:=MA (w:=MA (w:=MA (w:=Mc (w:=Mc (w:=QQ (UA (Bk (QV (Ma (w:=Mf (w:=Mb (w:=QL ?_))))))))))))))
   exact step (by unfold cI; rw [hL]; rfl) hlt e0 rfl
 ·refine QU (QN (Ma (w:=Ma (w:=Mr (w:=MF (w:=fun hh => by omega) (v:=fun hh => Ma (w:=MA (w:=MA (w:=MA (w:=MA (w:=MA (w:=MA (w:=MA (w:=MA (w:=MA (w:=MA (w:=Md (w:=QP (WC.exit (aG (QN (Ma (w:=Mb (w:=QM ?_))))))))))))))))))))))))
  refine ⟨_, aJ, ?_⟩
  rw [stop (fun h => (hlt h).elim)] at hq
  exact hq

def aAj (k : Nat) (o : Out) (v : Value) : Prop :=
 (∃ t p, o = ⟨.ok, p, [t]⟩ ∧ v = .tuple #[.agg t.cells.toArray, .int .i64 ((p : Nat) : Int), .int .i64 (-1)]) ∨
 (o.err.isOk = false ∧ v = .tuple #[.agg #[.int .i64 0, .string .empty, .int .i64 0, .int .i64 0], .int .i64 k, .int .i64 o.err.pos])

def nS (src : ByteArray) (k i : Nat) : Int := uP ((src.data.toList.drop k).take i) 0
theorem aBq {k i : Nat} (h : k + i < src.size) : nS src k (i + 1) = nS src k i * 10 + (aT src ((k + i : Nat) : Int) - 48) := by
 obtain ⟨b, hb, hv⟩ := dR h
 unfold nS
 rw [List.take_add_one, List.getElem?_drop, hb]
 simp only [Option.toList]
 rw [sG, hv]
theorem y4 {k : Nat} : ∀ i, k + i ≤ src.size → (∀ j, j < i → bC (aT src ((k + j : Nat) : Int)) = true) → 0 ≤ nS src k i ∧ nS src k i < 10 ^ i
 | 0, _, _ => by simp [nS, uP]
 | i + 1, hi, hd => by
  have ih := y4 i (by omega) fun j hj => hd j (by omega)
  rw [aBq (by omega)]
  have := hd i (by omega)
  simp only [bC, decide_eq_true_eq] at this
  rw [Int.pow_succ]
  omega

theorem aC2 {k : Nat} (hk : k < src.size) (hd : bC (aT src k) = true) (hz : src.size ≤ 100000) {h : aE} {Q : bW → Prop} (hq : ∀ h' v, Gr h h' → aAj k (cM src k []) v → Q (.ret v h')) : aP Tryz.prog G X 46 [.string src, .int .i64 k] h Q := by
 refine Wk Tryz.func46 Tryz.ntmps46 (w:=QN (Mw (w:=Mb (w:=Mb (w:=QO (Ma (w:=Mb (w:=QO (Mb (w:=QL (QU (Bk ?_))))))))))))
 refine WC.bK hX (α := Nat) (m := fun i => src.size - i) (Inv := fun i v h' => v 0 = some (.string src) ∧ v 1 = some (.int .i64 k) ∧ v 4 = some (.pointer (some ⟨h.next, 0, none⟩)) ∧ v 7 = some (.int .i64 ((k + i : Nat) : Int)) ∧ v 8 = some (.int .i64 (nS src k (min i 18))) ∧
   h' = h.alloc (.cells false [.int .i64 0, .string .empty, .int .i64 0, .int .i64 0]) ∧ k + i ≤ src.size ∧ ∀ j, j < i → bC (aT src ((k + j : Nat) : Int)) = true)
  0 ⟨rfl, rfl, rfl, rfl, rfl, rfl, by omega, fun j hj => by omega⟩ ?_
 rintro i v h' ih ⟨e0, e1, e4, e7, e8, rfl, hi, hall⟩
 refine QU (QU ?_)
 refine WC.cut (N' := fun e h' => e 0 = some (.string src) ∧ e 1 = some (.int .i64 k) ∧ e 4 = some (.pointer (some ⟨h.next, 0, none⟩)) ∧ e 7 = some (.int .i64 ((k + i : Nat) : Int)) ∧ e 8 = some (.int .i64 (nS src k (min i 18))) ∧
  e 19 = some (.bool (decide (k + i < src.size) && bC (aT src ((k + i : Nat) : Int)))) ∧ h' = h.alloc (.cells false [.int .i64 0, .string .empty, .int .i64 0, .int .i64 0])) ?_ ?_
 ·by_cases hlt : k + i < src.size
  ·refine QV (Ma (w:=Ma (w:=Mr (w:=MF (w:=fun hh => Ma (w:=Ma (w:=Ma (w:=Mm (w:=MJ aJl (w:=vC ?_)))))) (v:=fun hh => by omega)))))
   rw [decide_eq_true hlt, Bool.true_and]
   cases hD : bC (aT src ((k + i : Nat) : Int))
   ·refine Mc (w:=QL ?_)
    exact ⟨e0, e1, e4, e7, e8, rfl, rfl⟩
   ·refine Mc (w:=QL ?_)
    exact ⟨e0, e1, e4, e7, e8, rfl, rfl⟩
  ·refine QV (Ma (w:=Ma (w:=Mr (w:=MF (w:=fun hh => by omega) (v:=fun hh => Ma (w:=MA (w:=MA (w:=MA (w:=MA (w:=Md (w:=QL ?_)))))))))))
   rw [decide_eq_false hlt]
   exact ⟨e0, e1, e4, e7, e8, rfl, rfl⟩
 clear e0 e1 e4 e7 e8
 rintro v h' ⟨e0, e1, e4, e7, e8, e19, rfl⟩
 cases hc : decide (k + i < src.size) && bC (aT src ((k + i : Nat) : Int))
 ·rw [hc] at e19
  have hrun : runN bC src k = i := qR hall hi fun h => by rw [decide_eq_true h, Bool.true_and] at hc; exact hc
  have h1i : 1 ≤ i := by have := m9 (p := bC) hk hd; omega
  have hN : cM src k [] = if 18 < i then ⟨.pW ⟨#[97, 32, 110, 117, 109, 98, 101, 114]⟩ k, k, []⟩ else if 1 < i ∧ aT src k = 48 then ⟨.stuck k, k, []⟩ else if k + i < src.size ∧ cQ (aT src ((k : Int) + (i : Int))) = true then ⟨.stuck (k + i), k, []⟩
    else ⟨.ok, k + i, [⟨2, sub src k i, numOf (sub src k i), k⟩]⟩ := by
   unfold cM; rw [hrun, aAy hi h1i]; rfl
  have hnum : numOf (sub src k i) = nS src k i := by
   unfold numOf nS
   rw [sub_eq, ByteArray.data_extract, Array.toList_extract, List.extract_eq_take_drop, Nat.add_sub_cancel_left]
  rw [hnum] at hN
  have hle : i ≤ 18 → min i 18 = i := fun h => Nat.min_eq_left h
  refine QS (WC.exit (aG (QU (QN (Ma (w:=Ma (w:=Mg (w:=MH (w:=fun hh => Ma (w:=MA (w:=MA (w:=MA (w:=MA (w:=MA (w:=MA (w:=MA (w:=MA (w:=MA (w:=MA (w:=Mc (w:=QQ (QN (Mn (w:=Ma (w:=Ma (w:=Mv (w:=Mb (w:=Mb (w:=QM ?_))))))))))))))))))))) (v:=fun hh => Ma (w:=Ma (w:=Ma (w:=Mg (w:=MH (w:=fun hh => Ma (w:=Ma (w:=Ma (w:=Mm (w:=MD (w:=fun hh => Mc (w:=Md (w:=QQ (QN (Mn (w:=Ma (w:=Ma (w:=Mv (w:=Mb (w:=Mb (w:=QM ?_))))))))))) (v:=fun hh => Mc (w:=Md (w:=QP (UA (QU (QN (Ma (w:=Ma (w:=Mr (w:=MF (w:=fun hh => Ma (w:=Ma (w:=Ma (w:=Mm (w:=QK ?_))))) (v:=fun hh => Ma (w:=MA (w:=MA (w:=MA (w:=MA (w:=Md (w:=QP (UA (QN (Ma (w:=Ma (w:=Ma (w:=?_)))))))))))))))))))))))))))) (v:=?_))))))))))))));rotate_left 3;refine QK (WS.fU (hk := ?_));refine Ma (w:=Ma (w:=Mn (w:=Ma (w:=Mv (w:=Mb (w:=Mb (w:=QM ?_)))))));rotate_left;intro hh;refine Ma (w:=MA (w:=MA (w:=MA (w:=MA (w:=Md (w:=Md (w:=QP (UA (QU (QN (Ma (w:=Ma (w:=Mr (w:=MF (w:=fun hh => Ma (w:=Ma (w:=Ma (w:=Mm (w:=QK ?_))))) (v:=?_)))))))))))))));rotate_left;intro hh;refine Ma (w:=MA (w:=MA (w:=MA (w:=MA (w:=Md (w:=QP (UA (QN (Ma (w:=Ma (w:=Ma (w:=?_))))))))))));refine QK (WS.fU (hk := ?_));refine Ma (w:=Ma (w:=Mn (w:=Ma (w:=Mv (w:=Mb (w:=Mb (w:=QM ?_)))))));rotate_left
  ·rw [if_pos (by omega)] at hN
   refine ⟨_, aJ, ?_⟩
   exact hq _ _ cC (.inr (by rw [hN]; exact ⟨rfl, rfl⟩))
  ·rw [if_neg (by omega), if_pos ⟨by omega, hh⟩] at hN
   refine ⟨_, aJ, ?_⟩
   exact hq _ _ cC (.inr (by rw [hN]; exact ⟨rfl, rfl⟩))
  ·refine QJ aHb ?_
   refine pS ?_
   cases hL : cQ (aT src ((k + i : Nat) : Int))
   ·have hL' : cQ (aT src ((k : Int) + (i : Int))) = false := hL
    rw [if_neg (by omega), if_neg (by omega), if_neg (fun hx => by rw [hL'] at hx; exact Bool.noConfusion hx.2)] at hN
    refine Mc (w:=QP (UA (QN (Ma (w:=Ma (w:=Ma (w:=?_)))))));refine QK (WS.fU (hk := ?_));refine Ma (w:=Ma (w:=Mn (w:=Ma (w:=Mv (w:=Mb (w:=Mb (w:=QM ?_)))))))
    refine ⟨_, aJ, ?_⟩
    refine hq _ _ cC (.inl ?_)
    rw [hN]
    refine ⟨_, _, rfl, ?_⟩
    rw [hle (by omega)]
    rfl
   ·have hL' : cQ (aT src ((k : Int) + (i : Int))) = true := hL
    rw [if_neg (by omega), if_neg (by omega), if_pos ⟨by omega, hL'⟩] at hN
    refine Mc (w:=QQ (QN (Mn (w:=Ma (w:=Ma (w:=Mv (w:=Mb (w:=Mb (w:=QM ?_)))))))))
    refine ⟨_, aJ, ?_⟩
    exact hq _ _ cC (.inr (by rw [hN]; exact ⟨rfl, rfl⟩))
  ·rw [if_neg (by omega), if_neg (by omega), if_neg (fun hx => by omega)] at hN
   refine ⟨_, aJ, ?_⟩
   refine hq _ _ cC (.inl ?_)
   rw [hN]
   refine ⟨_, _, rfl, ?_⟩
   rw [hle (by omega)]
   rfl
  ·refine QJ aHb ?_
   refine pS ?_
   cases hL : cQ (aT src ((k + i : Nat) : Int))
   ·have hL' : cQ (aT src ((k : Int) + (i : Int))) = false := hL
    rw [if_neg (by omega), if_neg (by omega), if_neg (fun hx => by rw [hL'] at hx; exact Bool.noConfusion hx.2)] at hN
    refine Mc (w:=QP (UA (QN (Ma (w:=Ma (w:=Ma (w:=?_)))))));refine QK (WS.fU (hk := ?_));refine Ma (w:=Ma (w:=Mn (w:=Ma (w:=Mv (w:=Mb (w:=Mb (w:=QM ?_)))))))
    refine ⟨_, aJ, ?_⟩
    refine hq _ _ cC (.inl ?_)
    rw [hN]
    refine ⟨_, _, rfl, ?_⟩
    rw [hle (by omega)]
    rfl
   ·have hL' : cQ (aT src ((k : Int) + (i : Int))) = true := hL
    rw [if_neg (by omega), if_neg (by omega), if_pos ⟨by omega, hL'⟩] at hN
    refine Mc (w:=QQ (QN (Mn (w:=Ma (w:=Ma (w:=Mv (w:=Mb (w:=Mb (w:=QM ?_)))))))))
    refine ⟨_, aJ, ?_⟩
    exact hq _ _ cC (.inr (by rw [hN]; exact ⟨rfl, rfl⟩))
  ·rw [if_neg (by omega), if_neg (by omega), if_neg (fun hx => by omega)] at hN
   refine ⟨_, aJ, ?_⟩
   refine hq _ _ cC (.inl ?_)
   rw [hN]
   refine ⟨_, _, rfl, ?_⟩
   rw [hle (by omega)]
   rfl
 ·rw [hc] at e19
  rw [Bool.and_eq_true, decide_eq_true_eq] at hc
  obtain ⟨hlt, hD⟩ := hc
  have hall' : ∀ j, j < i + 1 → bC (aT src ((k + j : Nat) : Int)) = true := fun j hj => by
   rcases Nat.lt_succ_iff_lt_or_eq.1 hj with hj | rfl
   ·exact hall j hj
   ·exact hD
  have hD' := hD
  simp only [bC, decide_eq_true_eq] at hD'
  by_cases h18 : i < 18
  ·have hmin : min i 18 = i := by omega
   have hmin2 : min (i + 1) 18 = i + 1 := by omega
   have hr := y4 i (by omega) hall
   have hp : (10 : Int) ^ i ≤ 10 ^ 17 := by
    have := Nat.pow_le_pow_right (n := 10) (by decide) (show i ≤ 17 by omega)
    exact_mod_cast this
   have hp2 : (10 : Int) ^ 17 = 100000000000000000 := by decide
   rw [hp2] at hp
   rw [hmin] at e8
   have hrr := hr.2
   clear hmin hmin2
   refine QR (UA (Bk (QU (QN (Ma (w:=Ma (w:=Mg (w:=MF (w:=fun hh => QQ (QV (Ma (w:=?_)))) (v:=?_)))))))));refine QK (WS.aK6 (hk := ?_));refine Ma (w:=Ma (w:=Mm (w:=?_)));refine QK (WS.aIe (hk := ?_));refine Mf (w:=Mg (w:=Mb (w:=QL (QV (Ma (w:=Mf (w:=Mb (w:=QL ?_))))))));rotate_left;intro hh;exfalso;omega
   refine ih (i + 1) _ _ (by omega) ⟨e0, e1, e4, rfl, ?_, rfl, by omega, hall'⟩
   rw [show min (i + 1) 18 = i + 1 by omega, aBq hlt]
   refine congrArg (fun x => some (Value.int IntKind.i64 x)) (?_ : 10 * nS src k i + aT src ((k + i : Nat) : Int) - 48 = _)
   omega
  ·have hmin : min i 18 = 18 := by omega
   rw [hmin] at e8
   refine QR (UA (Bk (QU (QN (Ma (w:=Ma (w:=Mg (w:=MF (w:=fun hh => by omega) (v:=fun hh => QP (UA (QV (Ma (w:=Mf (w:=Mb (w:=QL ?_)))))))))))))))
   exact ih (i + 1) _ _ (by omega) ⟨e0, e1, e4, rfl, by rw [show min (i + 1) 18 = 18 by omega]; exact e8, rfl, by omega, hall'⟩

theorem nU (l : List Int) (c : Int) : strOf (l ++ [c]) = strOf l ++ strOf [c] := by
 apply ByteArray.ext
 rw [ByteArray.data_append]
 simp [strOf]
theorem aDn (l : List Int) : (strOf l).size = l.length := by
 show (strOf l).data.size = _
 simp [strOf]

theorem aC7 {k : Nat} (hk : k < src.size) (hz : src.size ≤ 100000) {h : aE} {Q : bW → Prop} (hq : ∀ h' v, Gr h h' → aAj k (rL src k []) v → Q (.ret v h')) : aP Tryz.prog G X 47 [.string src, .int .i64 k] h Q := by
 unfold rL at hq
 generalize hO : dT src k [] _ (k + 1) [] = O at hq
 refine Wk Tryz.func47 Tryz.ntmps47 (w:=QN (Mw (w:=Mb (w:=Mb (w:=QO (Mb (w:=QO (Ma (w:=Mf (w:=Mb (w:=QL (QU (Bk ?_)))))))))))))
 refine WC.bK hX (α := Nat × Nat × List Int) (m := fun a => a.1) (Inv := fun a v h' => v 0 = some (.string src) ∧ v 1 = some (.int .i64 k) ∧ v 4 = some (.pointer (some ⟨h.next, 0, none⟩)) ∧ v 7 = some (.string (strOf a.2.2)) ∧ v 8 = some (.int .i64 ((a.2.1 : Nat) : Int)) ∧
   (h.next < h'.next ∧ h'.obj h.next = some (.cells false [.int .i64 0, .string .empty, .int .i64 0, .int .i64 0]) ∧ ∀ j, j < h.next → h'.obj j = h.obj j) ∧ a.2.1 ≤ src.size ∧ a.2.2.length ≤ a.2.1 ∧ src.size < a.2.1 + a.1 ∧ dT src k [] a.1 a.2.1 a.2.2 = O)
  (src.size + 1, k + 1, []) ⟨rfl, rfl, rfl, rfl, rfl, ⟨aB, aA, fun j hj => bJ⟩, by simp only; omega, by simp, by simp only; omega, hO⟩ ?_
 rintro ⟨m, i, out⟩ v h' ih ⟨e0, e1, e4, e7, e8, ⟨hn, ho, hgr⟩, hi, hl, hf, hT⟩
 simp only at e7 e8 hi hl hf hT
 have hso := aDn out
 obtain ⟨m, rfl⟩ : ∃ m', m = m' + 1 := ⟨m - 1, by omega⟩
 unfold dT at hT
 refine QU (QU ?_)
 refine WC.cut (N' := fun e H => e 0 = some (.string src) ∧ e 1 = some (.int .i64 k) ∧ e 4 = some (.pointer (some ⟨h.next, 0, none⟩)) ∧ e 7 = some (.string (strOf out)) ∧ e 8 = some (.int .i64 ((i : Nat) : Int)) ∧
  e 21 = some (.bool (decide (i < src.size ∧ aT src i ≠ 34))) ∧ H = h') ?_ ?_
 ·refine QV (Ma (w:=Ma (w:=Mr (w:=MF (w:=fun hh => Ma (w:=Ma (w:=Ma (w:=Mm (w:=ME (w:=fun hh => Mc (w:=QL ?_)) (v:=fun hh => Mc (w:=QL ?_))))))) (v:=fun hh => Ma (w:=MA (w:=MA (w:=MA (w:=MA (w:=Md (w:=QL ?_)))))))))))
  ·rw [decide_eq_true ⟨by omega, hh⟩]; exact ⟨e0, e1, e4, e7, e8, rfl, rfl⟩
  ·rw [decide_eq_false (fun hc => hh hc.2)]; exact ⟨e0, e1, e4, e7, e8, rfl, rfl⟩
  ·rw [decide_eq_false (fun hc => by omega)]; exact ⟨e0, e1, e4, e7, e8, rfl, rfl⟩
 clear e0 e1 e4 e7 e8
 rintro v H ⟨e0, e1, e4, e7, e8, e21, rfl⟩
 by_cases hc : i < src.size ∧ aT src i ≠ 34
 ·rw [decide_eq_true hc] at e21
  rw [if_neg (by omega), if_neg hc.2, show ((i + 1 : Nat) : Int) = (i : Int) + 1 from rfl] at hT
  refine QR (UA (Bk (QN (Ma (w:=Ma (w:=Mm (w:=Mb (w:=QL (QU (QN (Ma (w:=MD (w:=fun hh => QQ (QU (QN (Ma (w:=Mf (w:=Ma (w:=Mr (w:=MD (w:=fun hh => Ma (w:=MA (w:=MA (w:=MA (w:=MA (w:=MA (w:=MA (w:=MA (w:=MA (w:=MA (w:=MA (w:=MA (w:=MA (w:=MA (w:=MA (w:=MA (w:=MA (w:=MA (w:=MA (w:=MA (w:=Mc (w:=QQ (QN (Mn (w:=Ma (w:=Ma (w:=Mv (w:=Mb (w:=Mb (w:=QM ?_)))))))))))))))))))))))))))))) (v:=fun hh => Ma (w:=Ma (w:=Ma (w:=Mf (w:=Mm (w:=ME (w:=fun hh => Ma (w:=Ma (w:=Ma (w:=Mf (w:=Mm (w:=ME (w:=fun hh => Mc (w:=Ma (w:=Ma (w:=Ma (w:=Mf (w:=Mm (w:=ME (w:=fun hh => Mc (w:=Md (w:=QQ (QN (Mn (w:=Ma (w:=Ma (w:=Mv (w:=Mb (w:=Mb (w:=QM ?_))))))))))) (v:=fun hh => Mc (w:=Md (w:=QP (UA (QN (Ma (w:=Mf (w:=Mb (w:=QO (Ma (w:=Ma (w:=Mm (w:=Mb (w:=QO (Ma (w:=MD (w:=fun hh => by omega) (v:=fun hh => QP (UA (QN (Ma (w:=Ma (w:=My (w:=QK ?_)))))))))))))))))))))))))))))) (v:=fun hh => Mc (w:=Ma (w:=MA (w:=MA (w:=MA (w:=MA (w:=MA (w:=Md (w:=Md (w:=QP (UA (QN (Ma (w:=Mf (w:=Mb (w:=QO (Ma (w:=Ma (w:=Mm (w:=Mb (w:=QO (Ma (w:=MD (w:=fun hh => by omega) (v:=fun hh => QP (UA (QN (Ma (w:=Ma (w:=My (w:=QK ?_)))))))))))))))))))))))))))))))))))) (v:=fun hh => Ma (w:=MA (w:=MA (w:=MA (w:=MA (w:=MA (w:=Md (w:=Ma (w:=MA (w:=MA (w:=MA (w:=MA (w:=MA (w:=Md (w:=Md (w:=QP (UA (QN (Ma (w:=Mf (w:=Mb (w:=QO (Ma (w:=Ma (w:=Mm (w:=Mb (w:=QO (Ma (w:=MD (w:=fun hh => QQ (QV (Mb (w:=QO (Ma (w:=Ma (w:=My (w:=QK ?_)))))))) (v:=fun hh => by omega)))))))))))))))))))))))))))))))))))))))))))) (v:=fun hh => QP (QN (Ma (w:=MF (w:=fun hh => Ma (w:=MA (w:=MA (w:=Mc (w:=QQ (QN (Mn (w:=Ma (w:=Ma (w:=Mv (w:=Mb (w:=Mb (w:=QM ?_))))))))))))) (v:=fun hh => Ma (w:=Ma (w:=MH (w:=fun hh => Md (w:=QQ (QN (Mn (w:=Ma (w:=Ma (w:=Mv (w:=Mb (w:=Mb (w:=QM ?_)))))))))) (v:=fun hh => Md (w:=QP (UA (QN (Ma (w:=Ma (w:=My (w:=QK ?_)))))))))))))))))))))))))))
  ·rw [if_pos (by assumption), if_neg (fun hx => by omega)] at hT
   refine ⟨_, aJ, ?_⟩
   exact hq _ _ ⟨aB, fun j hj => by rw [← hgr j hj]; exact bJ⟩ (.inr (by rw [← hT]; exact ⟨rfl, rfl⟩))
  ·rw [if_pos (by assumption), if_neg (fun hx => by omega)] at hT
   refine ⟨_, aJ, ?_⟩
   exact hq _ _ ⟨aB, fun j hj => by rw [← hgr j hj]; exact bJ⟩ (.inr (by rw [← hT]; exact ⟨rfl, rfl⟩))
  ·rw [if_pos (by assumption), if_pos ⟨by omega, by omega⟩, if_neg (by assumption)] at hT
   refine WS.conv (fun H' => yL H' 0 (some ⟨H.next, 0, none⟩) 1 1 [aT src ((i : Int) + 1)]) rfl rfl aD (.inr ⟨_, rfl, Nat.zero_le _, aB, rfl, rfl, aA⟩) (fun H' hH => hH.str) ?_
   have hs1 : (strOf [aT src ((i : Int) + 1)]).size = 1 := rfl
   refine Mh (w:=Mb (w:=QL (QV (Ma (w:=Mf (w:=Mb (w:=QL ?_)))))))
   exact ih (m, i + 2, out ++ [aT src ((i : Int) + 1)]) _ _ (by simp only; omega) ⟨e0, e1, e4, by rw [nU]; rfl, rfl, ⟨aB, aA, fun j hj => by rw [← hgr j hj]; exact bJ⟩, by simp only; omega, by simp only [List.length_append, List.length_singleton]; omega, by simp only; omega, hT⟩
  ·rw [if_pos (by assumption), if_pos ⟨by omega, by omega⟩, if_neg (by assumption)] at hT
   refine WS.conv (fun H' => yL H' 0 (some ⟨H.next, 0, none⟩) 1 1 [aT src ((i : Int) + 1)]) rfl rfl aD (.inr ⟨_, rfl, Nat.zero_le _, aB, rfl, rfl, aA⟩) (fun H' hH => hH.str) ?_
   have hs1 : (strOf [aT src ((i : Int) + 1)]).size = 1 := rfl
   refine Mh (w:=Mb (w:=QL (QV (Ma (w:=Mf (w:=Mb (w:=QL ?_)))))))
   exact ih (m, i + 2, out ++ [aT src ((i : Int) + 1)]) _ _ (by simp only; omega) ⟨e0, e1, e4, by rw [nU]; rfl, rfl, ⟨aB, aA, fun j hj => by rw [← hgr j hj]; exact bJ⟩, by simp only; omega, by simp only [List.length_append, List.length_singleton]; omega, by simp only; omega, hT⟩
  ·rw [if_pos (by assumption), if_pos ⟨by omega, by omega⟩, if_pos (by assumption)] at hT
   refine WS.conv (fun H' => yL H' 0 (some ⟨H.next, 0, none⟩) 1 1 [10]) rfl rfl aD (.inr ⟨_, rfl, Nat.zero_le _, aB, rfl, rfl, aA⟩) (fun H' hH => hH.str) ?_
   have hs1 : (strOf [10]).size = 1 := rfl
   refine Mh (w:=Mb (w:=QL (QV (Ma (w:=Mf (w:=Mb (w:=QL ?_)))))))
   exact ih (m, i + 2, out ++ [10]) _ _ (by simp only; omega) ⟨e0, e1, e4, by rw [nU]; rfl, rfl, ⟨aB, aA, fun j hj => by rw [← hgr j hj]; exact bJ⟩, by simp only; omega, by simp only [List.length_append, List.length_singleton]; omega, by simp only; omega, hT⟩
  ·rw [if_neg (by assumption), if_pos (by omega)] at hT
   refine ⟨_, aJ, ?_⟩
   exact hq _ _ ⟨aB, fun j hj => by rw [← hgr j hj]; exact bJ⟩ (.inr (by rw [← hT]; exact ⟨rfl, rfl⟩))
  ·rw [if_neg (by assumption), if_pos (by omega)] at hT
   refine ⟨_, aJ, ?_⟩
   exact hq _ _ ⟨aB, fun j hj => by rw [← hgr j hj]; exact bJ⟩ (.inr (by rw [← hT]; exact ⟨rfl, rfl⟩))
  ·rw [if_neg (by assumption), if_neg (by omega)] at hT
   refine WS.conv (fun H' => yL H' 0 (some ⟨H.next, 0, none⟩) 1 1 [aT src i]) rfl rfl aD (.inr ⟨_, rfl, Nat.zero_le _, aB, rfl, rfl, aA⟩) (fun H' hH => hH.str) ?_
   have hs1 : (strOf [aT src i]).size = 1 := rfl
   refine Mh (w:=Mb (w:=QL (QV (Ma (w:=Mf (w:=Mb (w:=QL ?_)))))))
   exact ih (m, i + 1, out ++ [aT src i]) _ _ (by simp only; omega) ⟨e0, e1, e4, by rw [nU]; rfl, rfl, ⟨aB, aA, fun j hj => by rw [← hgr j hj]; exact bJ⟩, by simp only; omega, by simp only [List.length_append, List.length_singleton]; omega, by simp only; omega, hT⟩
 ·rw [decide_eq_false hc] at e21
  refine QS (WC.exit (aG (QU (QN (Ma (w:=Ma (w:=Mr (w:=MI (w:=fun hh => QQ (QN (Mn (w:=Ma (w:=Ma (w:=Mr (w:=Mv (w:=Mb (w:=Mb (w:=QM ?_)))))))))) (v:=fun hh => QP (UA (QU (QN (Ma (w:=Mr (w:=MH (w:=fun hh => QQ (QN (Mn (w:=Ma (w:=Ma (w:=Mv (w:=Mb (w:=Mb (w:=QM ?_))))))))) (v:=fun hh => QP (UA (QN (Ma (w:=Ma (w:=Mn (w:=Ma (w:=Mf (w:=Mv (w:=Mb (w:=Mb (w:=QM ?_)))))))))))))))))))))))))))
  ·rw [if_pos (by omega)] at hT
   refine ⟨_, aJ, ?_⟩
   exact hq _ _ ⟨aB, fun j hj => by rw [← hgr j hj]; exact bJ⟩ (.inr (by rw [← hT]; exact ⟨rfl, rfl⟩))
  ·rw [if_neg (by omega), if_pos (Decidable.byContradiction fun hx => hc ⟨by omega, hx⟩), if_pos (by omega)] at hT
   refine ⟨_, aJ, ?_⟩
   exact hq _ _ ⟨aB, fun j hj => by rw [← hgr j hj]; exact bJ⟩ (.inr (by rw [← hT]; exact ⟨rfl, rfl⟩))
  ·rw [if_neg (by omega), if_pos (Decidable.byContradiction fun hx => hc ⟨by omega, hx⟩), if_neg (by omega)] at hT
   refine ⟨_, aJ, ?_⟩
   refine hq _ _ ⟨aB, fun j hj => by rw [← hgr j hj]; exact bJ⟩ (.inl ?_)
   rw [← hT]
   exact ⟨_, _, rfl, rfl⟩

theorem vF (src : ByteArray) (k n : Nat) : gR (rest src k) 0 (n : Int) = sub src k n := by rw [vE, tR, xP]

def tB : List ByteArray := marks.filter fun m => decide (m.size = 2)
def aBa : List ByteArray := marks.filter fun m => decide (m.size = 1)
theorem aGn {s : ByteArray} (h : s.size = 2) : dE tB s = dE marks s := by
 rw [Bool.eq_iff_iff, bL, bL]
 unfold tB
 rw [List.mem_filter]
 exact ⟨fun h => h.1, fun hm => ⟨hm, by rw [decide_eq_true_eq]; exact h⟩⟩
theorem xA {s : ByteArray} (h : s.size = 1) : dE aBa s = dE marks s := by
 rw [Bool.eq_iff_iff, bL, bL]
 unfold aBa
 rw [List.mem_filter]
 exact ⟨fun h => h.1, fun hm => ⟨hm, by rw [decide_eq_true_eq]; exact h⟩⟩

theorem eT {k : Nat} (hk : k < src.size) : bY (rest src k) = if k + 2 ≤ src.size ∧ dE tB (sub src k 2) = true then sub src k 2 else if dE aBa (sub src k 1) = true then sub src k 1 else .empty := by
 have h1 := vF src k 1
 have h2 := vF src k 2
 have hs := nD (Nat.le_of_lt hk)
 unfold bY
 rw [hs, show (2 : Int) = ((2 : Nat) : Int) from rfl, show (1 : Int) = ((1 : Nat) : Int) from rfl, h1, h2]
 by_cases c : k + 2 ≤ src.size
 ·rw [aGn (gQ c), xA (gQ (by omega))]
  simp only [show (2 ≤ src.size - k) = True by simp; omega, show (k + 2 ≤ src.size) = True by simp [c], show (1 ≤ src.size - k) = True by simp; omega, true_and]
 ·rw [xA (gQ (by omega))]
  simp only [show (2 ≤ src.size - k) = False by simp; omega, show (k + 2 ≤ src.size) = False by simp [c], show (1 ≤ src.size - k) = True by simp; omega, true_and, false_and, if_false]

theorem sZ : marks.all (fun m => decide (m ≠ .empty) && m.data.toList.all (fun b => decide (33 ≤ b.toNat ∧ b.toNat ≤ 126))) = true := by decide +kernel
theorem aAc : words.all (fun m => m.data.toList.all (fun b => decide (33 ≤ b.toNat ∧ b.toNat ≤ 126))) = true := by decide +kernel
theorem pR {s : ByteArray} (h : dE marks s = true) : noB s := fun b hb e => by
 have := List.all_eq_true.1 sZ s (bL.1 h)
 rw [Bool.and_eq_true] at this
 have := of_decide_eq_true (List.all_eq_true.1 this.2 b hb)
 subst e; exact absurd this (by decide)
theorem aCz {s : ByteArray} (h : dE words s = true) : noB s := fun b hb e => by
 have := of_decide_eq_true (List.all_eq_true.1 (List.all_eq_true.1 aAc s (bL.1 h)) b hb)
 subst e; exact absurd this (by decide)

theorem vO {k n : Nat} : (sub src k n).data.toList = (src.data.toList.drop k).take n := by
 rw [sub_eq, ByteArray.data_extract, Array.toList_extract, List.extract_eq_take_drop, Nat.add_sub_cancel_left]
theorem aGu {k : Nat} (hk : k ≤ src.size) : noB (sub src k (runN cI src k)) := fun b hb e => by
 rw [vO] at hb
 obtain ⟨j, hj, he⟩ := List.getElem_of_mem hb
 simp only [List.length_take, List.length_drop] at hj
 have h2 := oY (p := cI) (j := j) hk (by omega)
 have hl : src.data.toList.length = src.size := by simp
 obtain ⟨c, hc, hv⟩ := dR (s := src) (k := k + j) (by omega)
 rw [hv] at h2
 rw [List.getElem_take, List.getElem_drop] at he
 rw [List.getElem?_eq_getElem (by omega)] at hc
 rw [← Option.some.inj hc, he, e] at h2
 exact absurd h2 (by decide)

theorem aBg {k : Nat} (h : k + 2 ≤ src.size) (hb : aT src k ≠ 32) : noB (sub src k 2) ∨ ∃ a, (sub src k 2).data.toList = a ++ [32] := by
 obtain ⟨a, ha, va⟩ := dR (s := src) (k := k) (by omega)
 obtain ⟨b, hb', vb⟩ := dR (s := src) (k := k + 1) (by omega)
 have e : (sub src k 2).data.toList = [a, b] := by
  rw [vO]
  refine List.ext_getElem? fun i => ?_
  rw [List.getElem?_take]
  rcases i with _ | _ | i
  ·rw [if_pos (by omega), List.getElem?_drop, Nat.add_zero, ha]; rfl
  ·rw [if_pos (by omega), List.getElem?_drop, hb']; rfl
  ·rw [if_neg (by omega)]; rfl
 by_cases h32 : b = 32
 ·right; exact ⟨[a], by rw [e, h32]; rfl⟩
 ·left
  intro c hc e2
  rw [e] at hc
  simp only [List.mem_cons, List.not_mem_nil, or_false] at hc
  rcases hc with rfl | rfl
  ·rw [e2] at va; exact hb va
  ·exact h32 e2

def TOk (t : Tok) : Prop := 1 ≤ t.kind ∧ t.kind ≤ 3 ∨ t.kind = 4 ∧ dE words t.text = true ∨ t.kind = 5 ∧ dE marks t.text = true

theorem aEt : okW ⟨#[32, 97, 112, 112, 101, 110, 100, 32, 98, 111, 111, 108, 32, 98, 114, 101, 97, 107, 32, 99, 97, 112, 32, 99, 97, 115, 101, 32, 99, 104, 97, 110, 32, 99, 108, 111, 115, 101, 32, 99, 111, 110, 116, 105, 110, 117, 101, 32, 100, 101, 102, 97, 117, 108, 116, 32, 100, 101, 102, 101, 114, 32, 101, 108, 115, 101, 32, 102, 97, 108, 108, 116, 104, 114, 111, 117, 103, 104, 32, 102, 97, 108, 115, 101, 32, 102, 111, 114, 32, 102, 117, 110, 99, 32, 103, 111, 32, 105, 102, 32, 105, 110, 116, 32, 108, 101, 110, 32, 109, 97, 107, 101, 32, 110, 101, 119, 32, 110, 105, 108, 32, 112, 97, 110, 105, 99, 32, 112, 114, 105, 110, 116, 32, 114, 101, 99, 111, 118, 101, 114, 32, 114, 101, 116, 117, 114, 110, 32, 115, 101, 108, 101, 99, 116, 32, 115, 116, 114, 105, 110, 103, 32, 115, 116, 114, 117, 99, 116, 32, 115, 119, 105, 116, 99, 104, 32, 116, 114, 117, 101, 32, 116, 121, 112, 101, 32, 118, 97, 114, 32]⟩ words = true := by decide +kernel
theorem aGy : okW ⟨#[32, 58, 61, 32, 61, 61, 32, 33, 61, 32, 60, 61, 32, 62, 61, 32, 38, 38, 32, 124, 124, 32, 60, 45, 32, 43, 43, 32, 45, 45, 32, 43, 61, 32, 45, 61, 32, 42, 61, 32]⟩ tB = true := by decide +kernel
theorem aCd : okW ⟨#[32, 40, 32, 41, 32, 91, 32, 93, 32, 123, 32, 125, 32, 44, 32, 59, 32, 58, 32, 46, 32, 61, 32, 60, 32, 62, 32, 43, 32, 45, 32, 42, 32, 47, 32, 37, 32, 33, 32, 38, 32]⟩ aBa = true := by decide +kernel
theorem aLz : (List.range (⟨#[32, 58, 61, 32, 61, 61, 32, 33, 61, 32, 60, 61, 32, 62, 61, 32, 38, 38, 32, 124, 124, 32, 60, 45, 32, 43, 43, 32, 45, 45, 32, 43, 61, 32, 45, 61, 32, 42, 61, 32]⟩ : ByteArray).data.toList.length).all (fun i => decide (((⟨#[32, 58, 61, 32, 61, 61, 32, 33, 61, 32, 60, 61, 32, 62, 61, 32, 38, 38, 32, 124, 124, 32, 60, 45, 32, 43, 43, 32, 45, 45, 32, 43, 61, 32, 45, 61, 32, 42, 61, 32]⟩ : ByteArray).data.toList.drop i).take 2 ≠ [32, 32])) = true := by decide +kernel
theorem aDp : tB.all (fun m => m.data.toList.all (fun b => decide (b ≠ 32))) = true := by decide +kernel

theorem aK3 {k : Nat} (h2 : k + 2 ≤ src.size) (hb : aT src k ≠ 32) (hz : src.size ≤ 100000) {h : aE} {Q : bW → Prop} (hq : Q (.ret (.bool (dE tB (sub src k 2))) h)) : aP Tryz.prog G X 27 [.string (sub src k 2), .string ⟨#[32, 58, 61, 32, 61, 61, 32, 33, 61, 32, 60, 61, 32, 62, 61, 32, 38, 38, 32, 124, 124, 32, 60, 45, 32, 43, 43, 32, 45, 45, 32, 43, 61, 32, 45, 61, 32, 42, 61, 32]⟩] h Q := by
 have hs := gQ h2
 rcases aBg h2 hb with hn | ⟨a, ha⟩
 ·exact tC aGy hn (by decide) (by omega) hq
 ·have hf : dE tB (sub src k 2) = false := by
   rw [← Bool.not_eq_true, bL]
   intro hm
   have := List.all_eq_true.1 aDp _ hm
   rw [ha] at this
   simp at this
  rw [hf] at hq
  exact aJo ha aLz (by decide) (by omega) hq

theorem w6 {k : Nat} (hk : k < src.size) : ∃ c : UInt8, (sub src k 1).data.toList = [c] ∧ aT src k = c.toNat := by
 obtain ⟨a, ha, va⟩ := dR hk
 refine ⟨a, ?_, va⟩
 rw [vO]
 refine List.ext_getElem? fun i => ?_
 rw [List.getElem?_take]
 rcases i with _ | i
 ·rw [if_pos (by omega), List.getElem?_drop, Nat.add_zero, ha]; rfl
 ·rw [if_neg (by omega)]; rfl
theorem aCc {k : Nat} (hk : k < src.size) (hb : aT src k ≠ 32) : noB (sub src k 1) := fun b hm e => by
 obtain ⟨c, h1, h2⟩ := w6 hk
 rw [h1, List.mem_singleton] at hm
 rw [h2, ← hm, e] at hb
 exact hb rfl
theorem nQ {k : Nat} (hk : k < src.size) (h : dE aBa (sub src k 1) = true) : 32 < aT src k ∧ aT src k < 127 := by
 obtain ⟨c, h1, h2⟩ := w6 hk
 rw [xA (gQ (by omega))] at h
 have := List.all_eq_true.1 sZ _ (bL.1 h)
 rw [Bool.and_eq_true] at this
 have := of_decide_eq_true (List.all_eq_true.1 this.2 c (by rw [h1]; exact List.mem_singleton.2 rfl))
 rw [h2]; omega

theorem zN {k : Nat} (hk : k < src.size) (hz : src.size ≤ 100000) (hb : aT src k ≠ 32 ∧ aT src k ≠ 9 ∧ aT src k ≠ 10) (hsl : kT src k = false) {h : aE} {Q : bW → Prop} (hq : ∀ h' v, Gr h h' → aAj k (cA src k []) v → Q (.ret v h')) :
  aP Tryz.prog G X 26 [.string src, .int .i64 k] h Q := by
 have hN : cA src k [] = cA src k [] := rfl
 conv at hN => rhs; unfold cA
 rw [if_neg (by omega), if_neg (by omega), hsl, if_neg Bool.false_ne_true] at hN
 have hrl := lO (p := cI) (Nat.le_of_lt hk)
 have hsz := gQ hrl
 refine Wk Tryz.func26 Tryz.ntmps26 (w:=QN (Mw (w:=Mb (w:=Mb (w:=QO (Ma (w:=Ma (w:=Mm (w:=Mb (w:=QL (QU (QN (Ma (w:=MJ aHb (w:=pS ?_)))))))))))))))
 cases hL : cQ (aT src k)
 ·rw [hL, if_neg Bool.false_ne_true] at hN
  refine QP (UA (QU (QN (Ma (w:=MJ aJl (w:=vC ?_))))))
  cases hD : bC (aT src k)
  ·rw [hD, if_neg Bool.false_ne_true] at hN
   refine QP (UA (QU (QN (Ma (w:=MD (w:=fun hh => QQ (QN (Ma (w:=Ma (w:=QK ?_))))) (v:=fun hh => QP (UA (QU (QN (Ma (w:=Mf (w:=Ma (w:=Mr (w:=MG (w:=fun hh => Ma (w:=Ma (w:=Ma (w:=Ma (w:=Mf (w:=?_)))))) (v:=?_)))))))))))))));rotate_left;refine QK (WS.fU (hk := ?_));refine QK ?_;rotate_left;intro hh;refine Ma (w:=MA (w:=MA (w:=MA (w:=MA (w:=MA (w:=MA (w:=Md (w:=QP (UA (QU (QN (Ma (w:=MH (w:=fun hh => Ma (w:=Ma (w:=MF (w:=fun hh => Mc (w:=Ma (w:=Ma (w:=Ma (w:=Ma (w:=Mf (w:=?_))))))) (v:=?_)))) (v:=?_))))))))))))));refine QK (WS.fU (hk := ?_));refine QK ?_;rotate_left;intro hh;refine Mc (w:=Ma (w:=MA (w:=MA (w:=MA (w:=MA (w:=MA (w:=MA (w:=Md (w:=QP (UA (QN (Mn (w:=Ma (w:=Ma (w:=Mv (w:=Mb (w:=Mb (w:=QM ?_))))))))))))))))));rotate_left;intro hh;refine Ma (w:=MA (w:=MA (w:=Md (w:=Ma (w:=MA (w:=MA (w:=MA (w:=MA (w:=MA (w:=MA (w:=Md (w:=QP (UA (QN (Mn (w:=Ma (w:=Ma (w:=Mv (w:=Mb (w:=Mb (w:=QM ?_)))))))))))))))))))));rotate_left
   ·rw [if_pos hh] at hN
    refine QJ aNe ?_
    refine aC7 hk hz fun h1 v g1 ht => ?_
    have o1 : h1.obj h.next = some (.cells false [.int .i64 0, .string .empty, .int .i64 0, .int .i64 0]) := g1.at aB aA
    have G1 : Gr h h1 := (show Gr h _ from cC).trans g1
    rcases ht with ⟨t, p, e, rfl⟩ | ⟨e, rfl⟩
    ·refine Mq (w:=Mq (w:=Mq (w:=Mv (w:=Mb (w:=Mb (w:=QM ?_))))))
     refine ⟨_, aJ, ?_⟩
     exact hq _ _ cC (.inl ⟨t, p, hN.trans e, rfl⟩)
    ·refine Mq (w:=Mq (w:=Mq (w:=Mv (w:=Mb (w:=Mb (w:=QM ?_))))))
     refine ⟨_, aJ, ?_⟩
     exact hq _ _ cC (.inr (by rw [hN]; exact ⟨e, rfl⟩))
   ·rw [if_neg (by assumption)] at hN
    have s2 := gQ (src := src) (k := k) (n := 2) (by omega)
    refine QJ uX ?_
    refine aK3 (by omega) hb.1 hz ?_
    cases hT : dE tB (sub src k 2)
    ·have hTT : ¬ (k + 2 ≤ src.size ∧ dE tB (sub src k 2) = true) := fun hx => by rw [hT] at hx; cases hx.2
     refine Mc (w:=QP (UA (QU (QN (Ma (w:=MH (w:=fun hh => Ma (w:=Ma (w:=MF (w:=fun hh => Mc (w:=Ma (w:=Ma (w:=Ma (w:=Ma (w:=Mf (w:=?_))))))) (v:=?_)))) (v:=?_)))))));refine QK (WS.fU (hk := ?_));refine QK ?_;rotate_left;intro hh;refine Mc (w:=Ma (w:=MA (w:=MA (w:=MA (w:=MA (w:=MA (w:=MA (w:=Md (w:=QP (UA (QN (Mn (w:=Ma (w:=Ma (w:=Mv (w:=Mb (w:=Mb (w:=QM ?_))))))))))))))))));rotate_left;intro hh;refine Ma (w:=MA (w:=MA (w:=Md (w:=Ma (w:=MA (w:=MA (w:=MA (w:=MA (w:=MA (w:=MA (w:=Md (w:=QP (UA (QN (Mn (w:=Ma (w:=Ma (w:=Mv (w:=Mb (w:=Mb (w:=QM ?_)))))))))))))))))))));rotate_left
     ·have s1 := gQ (src := src) (k := k) (n := 1) (by omega)
      refine QJ uX ?_
      refine tC aCd (aCc hk hb.1) (by decide) (by omega) ?_
      cases hO : dE aBa (sub src k 1)
      ·have hM : bY (rest src k) = ⟨#[]⟩ := show bY (rest src k) = .empty by rw [eT hk, if_neg (fun hx => hTT hx), hO, if_neg Bool.false_ne_true]
       rw [hM, if_pos rfl] at hN
       refine Mc (w:=QP (UA (QN (Mn (w:=Ma (w:=Ma (w:=Mv (w:=Mb (w:=Mb (w:=QM ?_))))))))))
       refine ⟨_, aJ, ?_⟩
       exact hq _ _ cC (.inr (by rw [hN]; exact ⟨rfl, rfl⟩))
      ·have hM : bY (rest src k) = sub src k 1 := by rw [eT hk, if_neg (fun hx => hTT hx), hO, if_pos rfl]
       rw [hM, if_neg (fun hx => by rw [hx] at s1; cases s1), s1] at hN
       refine Mc (w:=QQ (QN (Ma (w:=Ma (w:=Ma (w:=Mf (w:=?_)))))));refine QK (WS.fU (hk := ?_));refine Ma (w:=Mn (w:=Ma (w:=Mf (w:=Mv (w:=Mb (w:=Mb (w:=QM ?_)))))))
       refine ⟨_, aJ, ?_⟩
       exact hq _ _ cC (.inl ⟨_, _, hN, rfl⟩)
     ·have hM : bY (rest src k) = ⟨#[]⟩ := show bY (rest src k) = .empty by rw [eT hk, if_neg (fun hx => hTT hx), if_neg (fun hx => by have := nQ hk hx; omega)]
      rw [hM, if_pos rfl] at hN
      refine ⟨_, aJ, ?_⟩
      exact hq _ _ cC (.inr (by rw [hN]; exact ⟨rfl, rfl⟩))
     ·have hM : bY (rest src k) = ⟨#[]⟩ := show bY (rest src k) = .empty by rw [eT hk, if_neg (fun hx => hTT hx), if_neg (fun hx => by have := nQ hk hx; omega)]
      rw [hM, if_pos rfl] at hN
      refine ⟨_, aJ, ?_⟩
      exact hq _ _ cC (.inr (by rw [hN]; exact ⟨rfl, rfl⟩))
    ·have hM : bY (rest src k) = sub src k 2 := by rw [eT hk, if_pos ⟨by omega, hT⟩]
     rw [hM, if_neg (fun hx => by rw [hx] at s2; cases s2), s2] at hN
     refine Mc (w:=QQ (QN (Ma (w:=Ma (w:=Ma (w:=Mf (w:=?_)))))));refine QK (WS.fU (hk := ?_));refine Ma (w:=Mn (w:=Ma (w:=Mf (w:=Mv (w:=Mb (w:=Mb (w:=QM ?_)))))))
     refine ⟨_, aJ, ?_⟩
     exact hq _ _ cC (.inl ⟨_, _, hN, rfl⟩)
   ·rw [if_neg (by assumption)] at hN
    have hTT : ¬ (k + 2 ≤ src.size ∧ dE tB (sub src k 2) = true) := fun hx => by omega
    have s1 := gQ (src := src) (k := k) (n := 1) (by omega)
    refine QJ uX ?_
    refine tC aCd (aCc hk hb.1) (by decide) (by omega) ?_
    cases hO : dE aBa (sub src k 1)
    ·have hM : bY (rest src k) = ⟨#[]⟩ := show bY (rest src k) = .empty by rw [eT hk, if_neg (fun hx => hTT hx), hO, if_neg Bool.false_ne_true]
     rw [hM, if_pos rfl] at hN
     refine Mc (w:=QP (UA (QN (Mn (w:=Ma (w:=Ma (w:=Mv (w:=Mb (w:=Mb (w:=QM ?_))))))))))
     refine ⟨_, aJ, ?_⟩
     exact hq _ _ cC (.inr (by rw [hN]; exact ⟨rfl, rfl⟩))
    ·have hM : bY (rest src k) = sub src k 1 := by rw [eT hk, if_neg (fun hx => hTT hx), hO, if_pos rfl]
     rw [hM, if_neg (fun hx => by rw [hx] at s1; cases s1), s1] at hN
     refine Mc (w:=QQ (QN (Ma (w:=Ma (w:=Ma (w:=Mf (w:=?_)))))));refine QK (WS.fU (hk := ?_));refine Ma (w:=Mn (w:=Ma (w:=Mf (w:=Mv (w:=Mb (w:=Mb (w:=QM ?_)))))))
     refine ⟨_, aJ, ?_⟩
     exact hq _ _ cC (.inl ⟨_, _, hN, rfl⟩)
   ·rw [if_neg (by assumption)] at hN
    have hTT : ¬ (k + 2 ≤ src.size ∧ dE tB (sub src k 2) = true) := fun hx => by omega
    have hM : bY (rest src k) = ⟨#[]⟩ := show bY (rest src k) = .empty by rw [eT hk, if_neg (fun hx => hTT hx), if_neg (fun hx => by have := nQ hk hx; omega)]
    rw [hM, if_pos rfl] at hN
    refine ⟨_, aJ, ?_⟩
    exact hq _ _ cC (.inr (by rw [hN]; exact ⟨rfl, rfl⟩))
   ·rw [if_neg (by assumption)] at hN
    have hTT : ¬ (k + 2 ≤ src.size ∧ dE tB (sub src k 2) = true) := fun hx => by omega
    have hM : bY (rest src k) = ⟨#[]⟩ := show bY (rest src k) = .empty by rw [eT hk, if_neg (fun hx => hTT hx), if_neg (fun hx => by have := nQ hk hx; omega)]
    rw [hM, if_pos rfl] at hN
    refine ⟨_, aJ, ?_⟩
    exact hq _ _ cC (.inr (by rw [hN]; exact ⟨rfl, rfl⟩))
  ·rw [hD, if_pos rfl] at hN
   refine QQ (QN (Ma (w:=Ma (w:=MJ aNc (w:=aC2 hk hD hz fun h1 v g1 ht => ?_)))))
   have o1 : h1.obj h.next = some (.cells false [.int .i64 0, .string .empty, .int .i64 0, .int .i64 0]) := g1.at aB aA
   have G1 : Gr h h1 := (show Gr h _ from cC).trans g1
   rcases ht with ⟨t, p, e, rfl⟩ | ⟨e, rfl⟩
   ·refine Mq (w:=Mq (w:=Mq (w:=Mv (w:=Mb (w:=Mb (w:=QM ?_))))))
    refine ⟨_, aJ, ?_⟩
    exact hq _ _ cC (.inl ⟨t, p, hN.trans e, rfl⟩)
   ·refine Mq (w:=Mq (w:=Mq (w:=Mv (w:=Mb (w:=Mb (w:=QM ?_))))))
    refine ⟨_, aJ, ?_⟩
    exact hq _ _ cC (.inr (by rw [hN]; exact ⟨e, rfl⟩))
 ·rw [hL, if_pos rfl] at hN
  refine QQ (QN (Ma (w:=Ma (w:=MJ aMs (w:=aG9 (Nat.le_of_lt hk) hz ?_)))))
  unfold l4 at hN
  refine Mb (w:=QL (QU (QN (Ma (w:=Ma (w:=Mg (w:=MH (w:=fun hh => QQ (QN (Mn (w:=Ma (w:=Ma (w:=Mv (w:=Mb (w:=Mb (w:=QM ?_))))))))) (v:=fun hh => QP (UA (QN (Mb (w:=QL (QU (QN (Ma (w:=Ma (w:=Ma (w:=?_))))))))))))))))));rotate_left;refine QK (WS.fU (hk := ?_));refine QK ?_;rotate_left
  ·rw [if_pos (by omega)] at hN
   refine ⟨_, aJ, ?_⟩
   exact hq _ _ cC (.inr (by rw [hN]; exact ⟨rfl, rfl⟩))
  ·rw [if_neg (by omega)] at hN
   refine QJ uX ?_
   refine tC aEt (aGu (Nat.le_of_lt hk)) (by decide) (by omega) ?_
   cases hW : dE words (sub src k (runN cI src k))
   ·rw [hW, if_neg Bool.false_ne_true] at hN
    refine QP (UA (QN (Ma (w:=Ma (w:=Ma (w:=Ma (w:=?_)))))));refine QK (WS.fU (hk := ?_));refine Ma (w:=Mn (w:=Ma (w:=Mv (w:=Mb (w:=Mb (w:=QM ?_))))))
    refine ⟨_, aJ, ?_⟩
    exact hq _ _ cC (.inl ⟨_, _, hN, rfl⟩)
   ·rw [hW, if_pos rfl] at hN
    refine QQ (QV (Mb (w:=QO (Ma (w:=Ma (w:=Ma (w:=Ma (w:=?_))))))));refine QK (WS.fU (hk := ?_));refine Ma (w:=Mn (w:=Ma (w:=Mv (w:=Mb (w:=Mb (w:=QM ?_))))))
    refine ⟨_, aJ, ?_⟩
    exact hq _ _ cC (.inl ⟨_, _, hN, rfl⟩)

theorem aBj (src : ByteArray) (k : Nat) (l : List Tok) : ∀ m i out, dT src k l m i out = ⟨(dT src k [] m i out).err, (dT src k [] m i out).pos, l ++ (dT src k [] m i out).list⟩ := by
 intro m
 induction m with
 | zero => intro i out; unfold dT; simp
 | succ m ih =>
  intro i out
  unfold dT
  split
  ·simp
  split
  ·split <;> simp
  split
  ·split
   ·exact ih _ _
   ·simp
  split
  ·simp
  ·exact ih _ _
theorem aCy {k : Nat} (h : aT src k ≠ 10) (l : List Tok) : cA src k l = ⟨(cA src k []).err, (cA src k []).pos, l ++ (cA src k []).list⟩ := by
 unfold cA
 split
 ·simp
 (try rw [if_neg h])
 split
 ·simp
 split
 ·unfold l4; split <;> simp
 split
 ·unfold cM
  split
  ·simp
  split
  ·simp
  split <;> simp
 split
 ·exact aBj _ _ _ _ _ _
 split <;> simp

theorem z8 {k p : Nat} {t : Tok} : ∀ m i out, dT src k [] m i out = ⟨.ok, p, [t]⟩ → t.kind = 3 := by
 intro m
 induction m with
 | zero => intro i out h; unfold dT at h; simp at h
 | succ m ih =>
  intro i out h
  unfold dT at h
  split at h
  ·simp at h
  split at h
  ·split at h
   ·simp at h
   ·simp only [List.nil_append, Out.mk.injEq, List.cons.injEq, and_true] at h
    rw [← h.2.2]
  split at h
  ·split at h
   ·exact ih _ _ h
   ·simp at h
  split at h
  ·simp at h
  ·exact ih _ _ h
theorem aCs (s : ByteArray) : bY s = ⟨#[]⟩ ∨ dE marks (bY s) = true := by
 unfold bY
 split
 ·rename_i h; exact .inr h.2
 split
 ·rename_i h; exact .inr h.2
 ·exact .inl rfl
theorem wL {k p : Nat} {t : Tok} (h : cA src k [] = ⟨.ok, p, [t]⟩) : TOk t := by
 unfold cA at h
 split at h
 ·simp at h
 split at h
 ·simp [eJ, kS] at h
 split at h
 ·simp at h
 split at h
 ·unfold l4 at h
  split at h
  ·simp at h
  ·simp only [List.nil_append, Out.mk.injEq, List.cons.injEq, and_true] at h
   rw [← h.2.2]
   unfold TOk
   simp only
   split
   ·rename_i hw; exact .inr (.inl ⟨rfl, hw⟩)
   ·exact .inl (by omega)
 split at h
 ·unfold cM at h
  split at h
  ·simp at h
  split at h
  ·simp at h
  split at h
  ·simp at h
  ·simp only [List.nil_append, Out.mk.injEq, List.cons.injEq, and_true] at h
   rw [← h.2.2]
   exact .inl (by simp only; omega)
 split at h
 ·have := z8 _ _ _ h
  exact .inl (by omega)
 split at h
 ·simp at h
 ·rename_i hm
  simp only [List.nil_append, Out.mk.injEq, List.cons.injEq, and_true] at h
  rw [← h.2.2]
  exact .inr (.inr ⟨rfl, (aCs _).resolve_left hm⟩)
theorem aBk : words.all (fun m => decide (m.size ≤ 100000)) = true := by decide +kernel
theorem aA6 : marks.all (fun m => decide (m.size ≤ 100000)) = true := by decide +kernel
theorem aBf {s : ByteArray} (h : dE words s = true) : s.size ≤ 100000 := of_decide_eq_true (List.all_eq_true.1 aBk s (bL.1 h))
theorem nR {s : ByteArray} (h : dE marks s = true) : s.size ≤ 100000 := of_decide_eq_true (List.all_eq_true.1 aA6 s (bL.1 h))
theorem wF {k : Nat} {l : List Tok} (h : ∀ t ∈ l, TOk t) : ∀ t ∈ eJ k l, TOk t := by
 unfold eJ
 split
 ·intro t ht
  rcases List.mem_append.1 ht with ht | ht
  ·exact h t ht
  ·rw [List.mem_singleton.1 ht]; exact .inr (.inr ⟨rfl, show dE marks ⟨#[59]⟩ = true by decide +kernel⟩)
 ·exact h

theorem lR : ∀ l : List Value, dG l = some l
 | [] => rfl
 | a :: l => by unfold dG; rw [lR l]
theorem pO : ∀ l : List Tok, (cellsOf l).all (·.oneCell') = true
 | [] => rfl
 | t :: l => by
  have := pO l
  simp only [cellsOf, List.flatMap_cons, List.all_append] at this ⊢
  rw [this]; rfl
def nK : List ByteArray := m8 ++ mV
theorem wU : okW ⟨#[32, 98, 114, 101, 97, 107, 32, 99, 111, 110, 116, 105, 110, 117, 101, 32, 102, 97, 108, 108, 116, 104, 114, 111, 117, 103, 104, 32, 114, 101, 116, 117, 114, 110, 32, 116, 114, 117, 101, 32, 102, 97, 108, 115, 101, 32, 110, 105, 108, 32, 105, 110, 116, 32, 98, 111, 111, 108, 32, 115, 116, 114, 105, 110, 103, 32, 43, 43, 32, 45, 45, 32, 41, 32, 93, 32, 125, 32]⟩ nK = true := by decide +kernel
theorem aAd : words.all (fun w => !dE marks w) = true := by decide +kernel
theorem aBo (a b : List ByteArray) (s : ByteArray) : dE (a ++ b) s = (dE a s || dE b s) := by unfold dE; rw [List.any_append]
theorem aCr {s : ByteArray} (h : dE words s = true) : dE nK s = dE m8 s := by
 unfold nK
 rw [aBo]
 have : dE mV s = false := by
  rw [← Bool.not_eq_true, bL]
  intro hm
  have h2 := List.all_eq_true.1 aAd s (bL.1 h)
  have h3 : mV.all (fun m => dE marks m) = true := by decide +kernel
  rw [List.all_eq_true.1 h3 s hm] at h2
  cases h2
 rw [this, Bool.or_false]
theorem aCp {s : ByteArray} (h : dE marks s = true) : dE nK s = dE mV s := by
 unfold nK
 rw [aBo]
 have : dE m8 s = false := by
  rw [← Bool.not_eq_true, bL]
  intro hm
  have h3 : m8.all (fun m => !dE marks m) = true := by decide +kernel
  have h2 := List.all_eq_true.1 h3 s hm
  rw [h] at h2
  cases h2
 rw [this, Bool.false_or]

theorem zM {l : List Tok} {k lo : Nat} {b : Option Addr} {n es : Nat} (ht : lB h lo b n es l) (hl : l.length ≤ 20000) (hx : ∀ t ∈ l, TOk t) (hlo : lo ≤ h.next)
  (hq : ∀ h' b' n' es', Gr h h' → lB h' lo b' n' es' (eJ k l) → Q (.ret (.slice b' n' es') h')) : aP Tryz.prog G X 25 [.slice b n es, .int .i64 k] h Q := by
 have hlen := ht.len
 rcases List.eq_nil_or_concat l with rfl | ⟨l0, t, rfl⟩
 ·have h0 : n = 0 := hlen
  subst h0
  refine Wk Tryz.func25 Tryz.ntmps25 (w:=QN (Mb (w:=QL (QU (QN (Ma (w:=Ms (w:=MD (w:=fun hh => QQ (QN (Ma (w:=Mb (w:=QM ?_))))) (v:=fun hh => by omega)))))))))
  refine ⟨_, aJ, ?_⟩
  exact hq _ _ _ _ cC ht
 rw [List.concat_eq_append] at *
 have htk := hx t (by simp)
 have hln : (l0 ++ [t]).length = l0.length + 1 := by simp
 have hends : eJ k (l0 ++ [t]) = if eZ t then l0 ++ [t] ++ [⟨5, ⟨#[59]⟩, 1, k⟩] else l0 ++ [t] := by
  unfold eJ kS; rw [List.getLast?_append]; rfl
 rcases ht with ⟨_, rfl, _, hf⟩ | ⟨j, rfl, h1j, h2j, rfl, rfl, h3j⟩
 ·omega
 have hget : (l0 ++ [t])[l0.length]? = some t := by simp
 refine Wk Tryz.func25 Tryz.ntmps25 (w:=QN (Mb (w:=QL (QU (QN (Ma (w:=Ms (w:=MD (w:=fun hh => by omega) (v:=fun hh => QP (UA (QN (Ma (w:=Ma (w:=Ms (w:=Mg (w:=Ml (w:=QK ?_)))))))))))))))))
 refine WS.lA (vs := t.cells) (hc := ?_) (hv' := ?_) (hk := ?_)
 (· rw [bD]; omega); (· rw [show 0 + (((l0 ++ [t]).length : Int) - 1).toNat * 4 = l0.length * 4 by omega, fR hget]; rfl)
 refine Mw (w:=Mv (w:=QL (QU (QN (Mj (w:=Mt (w:=MG (w:=fun hh => Ma (w:=MA (w:=MA (w:=MA (w:=Mc (w:=QQ (QN (Mz (w:=Ma (w:=QK ?_)))))))))) (v:=fun hh => Ma (w:=Mj (w:=Mt (w:=QK ?_)))))))))))
 ·have he : eZ t = true := by
   rcases htk with h1 | ⟨h4, _⟩ | ⟨h5, _⟩
   ·unfold eZ; rw [if_pos (by omega)]
   ·omega
   ·omega
  rw [he, if_pos rfl] at hends
  apply WS.append
  (· rfl); (· rfl); (· exact aD); (· exact aD); (· rfl); (· rfl); (· intro k hk; cases hk); (· exact aX rfl); (· omega); (· exact aA); (· rw [bD]; omega); (· rw [List.drop_zero, List.take_of_length_le (by rw [bD]; omega)]; exact lR _); (· unfold room; omega); (· exact pO _); (· exact .inr ⟨_, 0, _, rfl, rfl, aA, by simp, rfl⟩)
  intro h2 hn2 ho2 hf2
  simp only [aE.bX, aE.mQ, Nat.zero_mul, List.take_zero, List.nil_append] at hn2 ho2 hf2
  have g2 : Gr h h2 := ⟨by omega, fun i hi => by
   rw [hf2 i (by omega) (fun off e => by cases e; omega)]
   exact bJ⟩
  refine Mb (w:=QO (Ma (w:=Ma (w:=Mn (w:=Mz (w:=QK ?_))))))
  apply WS.append
  (· rfl); (· rfl); (· exact aD); (· exact aD); (· rfl); (· rfl); (· intro k hk; cases hk); (· exact aX rfl); (· decide); (· exact aA); (· exact fC); (· rfl); (· unfold room; omega); (· rfl)
  (· exact .inr ⟨_, 0, _, rfl, rfl, aA, by rw [bD]; omega, by rw [List.drop_zero, List.take_of_length_le (by rw [bD]; omega)]⟩)
  intro h3 hn3 ho3 hf3
  simp only [UB, UC] at hn3 ho3 hf3
  refine Mb (w:=QM ?_)
  refine ⟨_, aJ, ?_⟩
  refine hq _ _ _ _ ⟨by have := g2.1; omega, fun i hi => ?_⟩ ?_
  ·rw [hf3 i (by have := g2.1; omega) (fun off e => by cases e; omega), ← g2.2 i hi]
   exact bJ
  ·rw [hends]
   exact .inr ⟨_, rfl, by have := g2.1; exact aB, aB, rfl, by simp, ho3.trans (by simp [cellsOf, Tok.cells])⟩
 ·refine QJ uX ?_
  rcases htk with h1 | ⟨h4, hw⟩ | ⟨h5, hm⟩
  ·omega
  ·refine tC wU (aCz hw) (by decide) (aBf hw) ?_
   have he : eZ t = dE nK t.text := by unfold eZ; rw [if_neg (by omega), if_pos h4, aCr hw]
   cases hE : dE nK t.text
   ·rw [hE] at he
    rw [he, if_neg Bool.false_ne_true] at hends
    refine Md (w:=QP (UA (QN (Ma (w:=Mb (w:=QM ?_))))))
    refine ⟨_, aJ, ?_⟩
    refine hq _ _ _ _ cC ?_
    rw [hends]
    exact .inr ⟨j, rfl, h1j, aB, rfl, rfl, aA⟩
   ·rw [hE] at he
    refine Md (w:=QQ (QN (Mz (w:=Ma (w:=QK ?_)))))
    rw [he, if_pos rfl] at hends
    apply WS.append
    (· rfl); (· rfl); (· exact aD); (· exact aD); (· rfl); (· rfl); (· intro k hk; cases hk); (· exact aX rfl); (· omega); (· exact aA); (· rw [bD]; omega); (· rw [List.drop_zero, List.take_of_length_le (by rw [bD]; omega)]; exact lR _); (· unfold room; omega); (· exact pO _); (· exact .inr ⟨_, 0, _, rfl, rfl, aA, by simp, rfl⟩)
    intro h2 hn2 ho2 hf2
    simp only [aE.bX, aE.mQ, Nat.zero_mul, List.take_zero, List.nil_append] at hn2 ho2 hf2
    have g2 : Gr h h2 := ⟨by omega, fun i hi => by
     rw [hf2 i (by omega) (fun off e => by cases e; omega)]
     exact bJ⟩
    refine Mb (w:=QO (Ma (w:=Ma (w:=Mn (w:=Mz (w:=QK ?_))))))
    apply WS.append
    (· rfl); (· rfl); (· exact aD); (· exact aD); (· rfl); (· rfl); (· intro k hk; cases hk); (· exact aX rfl); (· decide); (· exact aA); (· exact fC); (· rfl); (· unfold room; omega); (· rfl)
    (· exact .inr ⟨_, 0, _, rfl, rfl, aA, by rw [bD]; omega, by rw [List.drop_zero, List.take_of_length_le (by rw [bD]; omega)]⟩)
    intro h3 hn3 ho3 hf3
    simp only [UB, UC] at hn3 ho3 hf3
    refine Mb (w:=QM ?_)
    refine ⟨_, aJ, ?_⟩
    refine hq _ _ _ _ ⟨by have := g2.1; omega, fun i hi => ?_⟩ ?_
    ·rw [hf3 i (by have := g2.1; omega) (fun off e => by cases e; omega), ← g2.2 i hi]
     exact bJ
    ·rw [hends]
     exact .inr ⟨_, rfl, by have := g2.1; exact aB, aB, rfl, by simp, ho3.trans (by simp [cellsOf, Tok.cells])⟩
  ·refine tC wU (pR hm) (by decide) (nR hm) ?_
   have he : eZ t = dE nK t.text := by unfold eZ; rw [if_neg (by omega), if_neg (by omega), if_pos h5, aCp hm]
   cases hE : dE nK t.text
   ·rw [hE] at he
    rw [he, if_neg Bool.false_ne_true] at hends
    refine Md (w:=QP (UA (QN (Ma (w:=Mb (w:=QM ?_))))))
    refine ⟨_, aJ, ?_⟩
    refine hq _ _ _ _ cC ?_
    rw [hends]
    exact .inr ⟨j, rfl, h1j, aB, rfl, rfl, aA⟩
   ·rw [hE] at he
    refine Md (w:=QQ (QN (Mz (w:=Ma (w:=QK ?_)))))
    rw [he, if_pos rfl] at hends
    apply WS.append
    (· rfl); (· rfl); (· exact aD); (· exact aD); (· rfl); (· rfl); (· intro k hk; cases hk); (· exact aX rfl); (· omega); (· exact aA); (· rw [bD]; omega); (· rw [List.drop_zero, List.take_of_length_le (by rw [bD]; omega)]; exact lR _); (· unfold room; omega); (· exact pO _); (· exact .inr ⟨_, 0, _, rfl, rfl, aA, by simp, rfl⟩)
    intro h2 hn2 ho2 hf2
    simp only [aE.bX, aE.mQ, Nat.zero_mul, List.take_zero, List.nil_append] at hn2 ho2 hf2
    have g2 : Gr h h2 := ⟨by omega, fun i hi => by
     rw [hf2 i (by omega) (fun off e => by cases e; omega)]
     exact bJ⟩
    refine Mb (w:=QO (Ma (w:=Ma (w:=Mn (w:=Mz (w:=QK ?_))))))
    apply WS.append
    (· rfl); (· rfl); (· exact aD); (· exact aD); (· rfl); (· rfl); (· intro k hk; cases hk); (· exact aX rfl); (· decide); (· exact aA); (· exact fC); (· rfl); (· unfold room; omega); (· rfl)
    (· exact .inr ⟨_, 0, _, rfl, rfl, aA, by rw [bD]; omega, by rw [List.drop_zero, List.take_of_length_le (by rw [bD]; omega)]⟩)
    intro h3 hn3 ho3 hf3
    simp only [UB, UC] at hn3 ho3 hf3
    refine Mb (w:=QM ?_)
    refine ⟨_, aJ, ?_⟩
    refine hq _ _ _ _ ⟨by have := g2.1; omega, fun i hi => ?_⟩ ?_
    ·rw [hf3 i (by have := g2.1; omega) (fun off e => by cases e; omega), ← g2.2 i hi]
     exact bJ
    ·rw [hends]
     exact .inr ⟨_, rfl, by have := g2.1; exact aB, aB, rfl, by simp, ho3.trans (by simp [cellsOf, Tok.cells])⟩

theorem uA {l : List Tok} {i : Nat} {t : Tok} (h : l[i]? = some t) {f : Nat} (hf : f < 4) : (cellsOf l)[i * 4 + f]? = t.cells[f]? := by
 rw [← fR h, List.getElem?_take, if_pos hf, List.getElem?_drop]
theorem lB.lo {lo lo' : Nat} {b : Option Addr} {n es : Nat} {l : List Tok} (ht : lB h lo b n es l) (hl : lo' ≤ lo) : lB h lo' b n es l := by
 rcases ht with ⟨rfl, rfl, rfl, rfl⟩ | ⟨i, rfl, h1, h2, rfl, rfl, h3⟩
 ·exact .inl ⟨rfl, rfl, rfl, rfl⟩
 ·exact .inr ⟨i, rfl, by omega, h2, rfl, rfl, h3⟩
theorem aEq : okW ⟨#[32, 40, 32, 91, 32, 123, 32]⟩ pF = true := by decide +kernel
theorem wR : okW ⟨#[32, 41, 32, 93, 32, 125, 32]⟩ lP = true := by decide +kernel
theorem xE {s : ByteArray} (h : dE pF s = true) : dE lP s = false := by
 have h2 : pF.all (fun m => !dE lP m) = true := by decide +kernel
 have := List.all_eq_true.1 h2 s (bL.1 h)
 simpa using this
theorem z1 {k : Nat} (hk : k ≤ src.size) : kT src k = decide (k + 2 ≤ src.size ∧ sub src k 2 = ⟨#[47, 47]⟩) := by
 unfold kT
 rw [nD hk, show (((⟨#[47, 47]⟩ : ByteArray).size : Nat) : Int) = ((2 : Nat) : Int) from rfl, vF, decide_eq_decide]
 constructor
 ·rintro ⟨h1, h2⟩
  have : (⟨#[47, 47]⟩ : ByteArray).size = 2 := rfl
  exact ⟨by omega, h2⟩
 ·rintro ⟨h1, h2⟩
  have : (⟨#[47, 47]⟩ : ByteArray).size = 2 := rfl
  exact ⟨by omega, h2⟩

theorem aG0 (hz : src.size ≤ 140737488355328) {h : aE} {Q : bW → Prop}
  (hq : ∀ h' b n es, Gr h h' → lB h' h.next b n es (cO src).qH → Q (.ret (.tuple #[.slice b n es, .agg #[.int .i64 (cO src).l5, .int .i64 (cO src).pos]]) h')) : aP Tryz.prog G X 15 [.string src] h Q := by
 have hS : cO src = cO src := rfl
 conv at hS => rhs; unfold cO
 refine Wk Tryz.func15 Tryz.ntmps15 (w:=QN (Mb (w:=Mw (w:=QL (QU (QN (Ma (w:=Mr (w:=MH (w:=fun hh => QQ (QN (Mn (w:=Mb (w:=Mv (w:=QM ?_)))))) (v:=fun hh => QP (UA (QN (Mb (w:=QO (Mb (w:=QL (QU (Bk ?_))))))))))))))))))
 ·rw [if_pos (by omega)] at hS
  rw [hS] at hq
  refine ⟨_, aJ, ?_⟩
  exact hq _ none 0 0 cC (.inl ⟨rfl, rfl, rfl, rfl⟩)
 rw [if_neg (by omega)] at hS
 have hz2 : src.size ≤ 8192 := by omega
 generalize hO : nT src = O at hS
 refine WC.bK hX (α := Nat × Nat × List Tok) (m := fun a => a.1) (Inv := fun a v h' => v 0 = some (.string src) ∧ v 3 = some (.pointer (some ⟨h.next, 0, none⟩)) ∧ v 5 = some (.int .i64 ((a.2.1 : Nat) : Int)) ∧ (∃ b n es, v 4 = some (.slice b n es) ∧ lB h' (h.next + 1) b n es a.2.2) ∧
   (h.next < h'.next ∧ h'.obj h.next = some (.cells false [.int .i64 0, .int .i64 0]) ∧ ∀ j, j < h.next → h'.obj j = h.obj j) ∧ a.2.1 ≤ src.size ∧ a.2.2.length ≤ a.2.1 ∧ src.size < a.2.1 + a.1 ∧ (∀ t ∈ a.2.2, TOk t) ∧ jE src a.1 a.2.1 a.2.2 = O)
  (src.size + 1, 0, []) ⟨rfl, rfl, rfl, ⟨none, 0, 0, rfl, .inl ⟨rfl, rfl, rfl, rfl⟩⟩, ⟨aB, aA, fun j hj => bJ⟩, by simp, by simp, by simp, by simp, hO⟩ ?_
 rintro ⟨m, k, l⟩ v h1 ih ⟨e0, e3, e5, ⟨b, n, es, e4, ht⟩, ⟨hn, ho, hgr⟩, hk, hl, hf, htk, hA⟩
 simp only at e4 e5 ht hk hl hf htk hA
 obtain ⟨m, rfl⟩ : ∃ m', m = m' + 1 := ⟨m - 1, by omega⟩
 unfold jE at hA
 by_cases hlt : k < src.size
 ·rw [if_neg (by omega)] at hA
  by_cases h10 : aT src k = 10
  ·have hN : cA src k l = ⟨.ok, k + 1, eJ k l⟩ := by unfold cA; rw [if_neg (by omega), if_pos h10]
   rw [hN, if_pos (show c8.ok.isOk = true from rfl)] at hA
   refine QU (QN (Ma (w:=Ma (w:=Mr (w:=MF (w:=fun hh => QQ (UA (Bk (QU (QN (Ma (w:=Ma (w:=Mm (w:=MD (w:=fun hh => QQ (QV (Ma (w:=Ma (w:=MJ aKz (w:=zM ht (by omega) htk (by omega) fun h2 b2 n2 es2 g2 ht2 => ?_)))))) (v:=fun hh => by omega)))))))))) (v:=fun hh => by omega))))))
   have hn2 := g2.1
   have hll := mZ k l
   refine Mb (w:=QL (QU (QN (Ma (w:=Ma (w:=Mm (w:=MD (w:=fun hh => Ma (w:=MA (w:=MA (w:=MA (w:=MA (w:=Mc (w:=Ma (w:=MA (w:=MA (w:=MA (w:=MA (w:=Mc (w:=QQ (QN (Ma (w:=Mf (w:=Mb (w:=QL (WC.exit (aG ?_)))))))))))))))))))) (v:=fun hh => by omega))))))))
   exact ih (m, k + 1, eJ k l) _ _ (by simp only; omega) ⟨e0, e3, rfl, ⟨b2, n2, es2, rfl, ht2⟩, ⟨aB, g2.at hn ho, fun j hj => by rw [← hgr j hj]; exact g2.2 j (by omega)⟩, by simp only; omega, by simp only; omega, by simp only; omega, wF htk, hA⟩
  by_cases hbl : aT src k = 32 ∨ aT src k = 9
  ·have hN : cA src k l = ⟨.ok, k + 1, l⟩ := by unfold cA; rw [if_pos hbl]
   rw [hN, if_pos (show c8.ok.isOk = true from rfl)] at hA
   have done : ∀ v : Env, v 0 = some (.string src) → v 3 = some (.pointer (some ⟨h.next, 0, none⟩)) → v 4 = some (.slice b n es) → v 5 = some (.int .i64 ((k + 1 : Nat) : Int)) → _ := fun v e0 e3 e4 e5 => ih (m, k + 1, l) v h1 (by simp only; omega) ⟨e0, e3, e5, ⟨b, n, es, e4, ht⟩, ⟨hn, ho, hgr⟩, by simp only; omega, by simp only; omega, by simp only; omega, htk, hA⟩
   refine QU (QN (Ma (w:=Ma (w:=Mr (w:=MF (w:=fun hh => QQ (UA (Bk (QU (QN (Ma (w:=Ma (w:=Mm (w:=MD (w:=fun hh => by omega) (v:=fun hh => QP (UA (QU (QN (Ma (w:=Ma (w:=Mm (w:=MD (w:=fun hh => by omega) (v:=fun hh => Ma (w:=Ma (w:=Ma (w:=Mm (w:=MD (w:=fun hh => Md (w:=Ma (w:=MA (w:=MA (w:=MA (w:=MA (w:=Mc (w:=QQ (QN (Ma (w:=Mf (w:=Mb (w:=QL (WC.exit (aG ?_))))))))))))))) (v:=fun hh => Md (w:=Ma (w:=Ma (w:=Ma (w:=Mm (w:=MD (w:=fun hh => Md (w:=QQ (QN (Ma (w:=Mf (w:=Mb (w:=QL (WC.exit (aG ?_))))))))) (v:=fun hh => by omega))))))))))))))))))))))))))))) (v:=fun hh => by omega))))))
   ·exact done _ e0 e3 e4 rfl
   ·exact done _ e0 e3 e4 rfl
  have hs0 := z1 hk
  cases hsl : kT src k
  ·rw [hsl] at hs0
   have hs1 := of_decide_eq_false hs0.symm
   have hN := aCy h10 l
   refine QU (QN (Ma (w:=Ma (w:=Mr (w:=MF (w:=fun hh => QQ (UA (Bk (QU (QN (Ma (w:=Ma (w:=Mm (w:=MD (w:=fun hh => by omega) (v:=fun hh => QP (UA (QU (QN (Ma (w:=Ma (w:=Mm (w:=MD (w:=fun hh => by omega) (v:=fun hh => Ma (w:=Ma (w:=Ma (w:=Mm (w:=MD (w:=fun hh => by omega) (v:=fun hh => Md (w:=Ma (w:=Ma (w:=Ma (w:=Mm (w:=MD (w:=fun hh => by omega) (v:=fun hh => Md (w:=QP (UA (QU (QN (Ma (w:=Mf (w:=Ma (w:=Mr (w:=MG (w:=fun hh => Ma (w:=Ma (w:=Ma (w:=Ma (w:=Mf (w:=?_)))))) (v:=?_))))))))))))))))))))))))))))))))))))))) (v:=?_))))));refine QK (WS.fU (hk := ?_));refine MB (w:=fun hh => Mc (w:=QQ (QU (Bk ?_)))) (v:=?_);rotate_left;intro hh;refine Mc (w:=QP (UA (QN (Ma (w:=Ma (w:=QK ?_))))));rotate_left;intro hh;refine Ma (w:=MA (w:=MA (w:=MA (w:=MA (w:=MA (w:=MA (w:=Md (w:=QP (UA (QN (Ma (w:=Ma (w:=QK ?_)))))))))))));rotate_left;intro hh;exfalso;omega
   ·exact (hs1 ⟨by omega, hh⟩).elim
   ·refine QJ aLi ?_
    refine zN hlt (by omega) ⟨by omega, by omega, h10⟩ hsl fun h2 w g2 hw => ?_
    have hn2 := g2.1
    rcases hw with ⟨t, p, he, rfl⟩ | ⟨he, rfl⟩
    ·rw [he] at hN
     rw [hN, if_pos (show c8.ok.isOk = true from rfl)] at hA
     have hok := nB (l := l) hlt (by rw [hN]; rfl)
     rw [hN] at hok
     simp only at hok hA
     have ht2 : lB h2 (h.next + 1) b n es l := ht.mono g2.1 fun j _ hj => g2.2 j hj
     have o2 := g2.at hn ho
     have hlen := ht2.len
     refine Ma (w:=Mq (w:=Mq (w:=Mq (w:=Mw (w:=Mv (w:=Mb (w:=Mb (w:=QL (QU (QN (Ma (w:=MI (w:=fun hh => by omega) (v:=fun hh => QP (UA (QN (Ma (w:=Mu (w:=Mz (w:=QK ?_)))))))))))))))))))
     apply WS.append
     (· rfl); (· rfl); (· exact aD); (· exact aD); (· rfl); (· rfl); (· intro k hk; cases hk); (· exact aX rfl); (· decide); (· exact aA); (· exact fC); (· rfl); (· unfold room; omega); (· rfl)
     (· refine lB.at (l := l) (ht2.mono ?_ fun j _ hj => ?_); (· exact aB); (· exact bJ))
     intro h3 hn3 ho3 hf3
     simp only [UB, UC] at hn3 ho3 hf3
     have hb : ∀ i, i < h.next + 1 → ∀ off, b ≠ some ⟨i, off, none⟩ := fun i hi => by rcases ht2 with ⟨rfl, _⟩ | ⟨i, rfl, h1, _⟩ <;> intro off e <;> cases e; omega
     refine Mb (w:=QL (QV (Ma (w:=Mb (w:=QL ?_)))))
     exact ih (m, p, l ++ [t]) _ _ (by simp only; omega) ⟨e0, e3, rfl, ⟨_, _, _, rfl, .inr ⟨_, rfl, aB, aB, rfl, by simp [hlen], ho3.trans (by simp [cellsOf, Tok.cells])⟩⟩,
      ⟨by omega, by rw [hf3 _ (by omega) (hb _ (by omega))]; exact aA, fun j hj => by rw [hf3 _ (by omega) (hb _ (by omega)), ← hgr j hj, ← g2.2 j (by omega)]; exact bJ⟩, by simp only; omega, by simp only [List.length_append, List.length_singleton]; omega, by simp only; omega,
      fun u hu => by rcases List.mem_append.1 hu with hu | hu; exact htk u hu; rw [List.mem_singleton.1 hu]; exact wL he, hA⟩
    ·rw [hN, if_neg (by simp only; rw [he]; exact Bool.false_ne_true)] at hA
     rw [← hA] at hS
     rw [if_neg (by simp only; rw [he]; exact Bool.false_ne_true)] at hS
     rw [hS] at hq
     have o2 := g2.at hn ho
     refine Ma (w:=Mq (w:=Mq (w:=Mq (w:=Mw (w:=Mv (w:=Mb (w:=Mb (w:=QL (QU (QN (Ma (w:=MI (w:=fun hh => QQ (QN (Ma (w:=Mn (w:=Mb (w:=Mv (w:=QM ?_))))))) (v:=fun hh => by omega)))))))))))))
     refine ⟨_, aJ, ?_⟩
     exact hq _ none 0 0 ⟨aB, fun j hj => by rw [← hgr j hj, ← g2.2 j (by omega)]; exact bJ⟩ (.inl ⟨rfl, rfl, rfl, rfl⟩)
   ·refine QJ aLi ?_
    refine zN hlt (by omega) ⟨by omega, by omega, h10⟩ hsl fun h2 w g2 hw => ?_
    have hn2 := g2.1
    rcases hw with ⟨t, p, he, rfl⟩ | ⟨he, rfl⟩
    ·rw [he] at hN
     rw [hN, if_pos (show c8.ok.isOk = true from rfl)] at hA
     have hok := nB (l := l) hlt (by rw [hN]; rfl)
     rw [hN] at hok
     simp only at hok hA
     have ht2 : lB h2 (h.next + 1) b n es l := ht.mono g2.1 fun j _ hj => g2.2 j hj
     have o2 := g2.at hn ho
     have hlen := ht2.len
     refine Ma (w:=Mq (w:=Mq (w:=Mq (w:=Mw (w:=Mv (w:=Mb (w:=Mb (w:=QL (QU (QN (Ma (w:=MI (w:=fun hh => by omega) (v:=fun hh => QP (UA (QN (Ma (w:=Mu (w:=Mz (w:=QK ?_)))))))))))))))))))
     apply WS.append
     (· rfl); (· rfl); (· exact aD); (· exact aD); (· rfl); (· rfl); (· intro k hk; cases hk); (· exact aX rfl); (· decide); (· exact aA); (· exact fC); (· rfl); (· unfold room; omega); (· rfl)
     (· refine lB.at (l := l) (ht2.mono ?_ fun j _ hj => ?_); (· exact aB); (· exact bJ))
     intro h3 hn3 ho3 hf3
     simp only [UB, UC] at hn3 ho3 hf3
     have hb : ∀ i, i < h.next + 1 → ∀ off, b ≠ some ⟨i, off, none⟩ := fun i hi => by rcases ht2 with ⟨rfl, _⟩ | ⟨i, rfl, h1, _⟩ <;> intro off e <;> cases e; omega
     refine Mb (w:=QL (QV (Ma (w:=Mb (w:=QL ?_)))))
     exact ih (m, p, l ++ [t]) _ _ (by simp only; omega) ⟨e0, e3, rfl, ⟨_, _, _, rfl, .inr ⟨_, rfl, aB, aB, rfl, by simp [hlen], ho3.trans (by simp [cellsOf, Tok.cells])⟩⟩,
      ⟨by omega, by rw [hf3 _ (by omega) (hb _ (by omega))]; exact aA, fun j hj => by rw [hf3 _ (by omega) (hb _ (by omega)), ← hgr j hj, ← g2.2 j (by omega)]; exact bJ⟩, by simp only; omega, by simp only [List.length_append, List.length_singleton]; omega, by simp only; omega,
      fun u hu => by rcases List.mem_append.1 hu with hu | hu; exact htk u hu; rw [List.mem_singleton.1 hu]; exact wL he, hA⟩
    ·rw [hN, if_neg (by simp only; rw [he]; exact Bool.false_ne_true)] at hA
     rw [← hA] at hS
     rw [if_neg (by simp only; rw [he]; exact Bool.false_ne_true)] at hS
     rw [hS] at hq
     have o2 := g2.at hn ho
     refine Ma (w:=Mq (w:=Mq (w:=Mq (w:=Mw (w:=Mv (w:=Mb (w:=Mb (w:=QL (QU (QN (Ma (w:=MI (w:=fun hh => QQ (QN (Ma (w:=Mn (w:=Mb (w:=Mv (w:=QM ?_))))))) (v:=fun hh => by omega)))))))))))))
     refine ⟨_, aJ, ?_⟩
     exact hq _ none 0 0 ⟨aB, fun j hj => by rw [← hgr j hj, ← g2.2 j (by omega)]; exact bJ⟩ (.inl ⟨rfl, rfl, rfl, rfl⟩)
  ·rw [hsl] at hs0
   have hs1 := of_decide_eq_true hs0.symm
   have hN : cA src k l = ⟨.ok, k + runN fM src k, l⟩ := by unfold cA; rw [if_neg hbl, if_neg h10, hsl, if_pos rfl]
   rw [hN, if_pos (show c8.ok.isOk = true from rfl)] at hA
   refine QU (QN (Ma (w:=Ma (w:=Mr (w:=MF (w:=fun hh => QQ (UA (Bk (QU (QN (Ma (w:=Ma (w:=Mm (w:=MD (w:=fun hh => by omega) (v:=fun hh => QP (UA (QU (QN (Ma (w:=Ma (w:=Mm (w:=MD (w:=fun hh => by omega) (v:=fun hh => Ma (w:=Ma (w:=Ma (w:=Mm (w:=MD (w:=fun hh => by omega) (v:=fun hh => Md (w:=Ma (w:=Ma (w:=Ma (w:=Mm (w:=MD (w:=fun hh => by omega) (v:=fun hh => Md (w:=QP (UA (QU (QN (Ma (w:=Mf (w:=Ma (w:=Mr (w:=MG (w:=fun hh => Ma (w:=Ma (w:=Ma (w:=Ma (w:=Mf (w:=?_)))))) (v:=?_))))))))))))))))))))))))))))))))))))))) (v:=?_))))));refine QK (WS.fU (hk := ?_));refine MB (w:=fun hh => Mc (w:=QQ (QU (Bk ?_)))) (v:=?_);rotate_left;intro hh;refine Mc (w:=QP (UA (QN (Ma (w:=Ma (w:=QK ?_))))));rotate_left;intro hh;exfalso;omega;intro hh;exfalso;omega
   ·refine WC.bK hX (α := Nat) (m := fun i => src.size - i) (Inv := fun i v h' => v 0 = some (.string src) ∧ v 3 = some (.pointer (some ⟨h.next, 0, none⟩)) ∧ v 4 = some (.slice b n es) ∧ v 5 = some (.int .i64 ((k + i : Nat) : Int)) ∧ h' = h1 ∧ k + i ≤ src.size ∧ ∀ j, j < i → fM (aT src ((k + j : Nat) : Int)) = true)
     0 ⟨e0, e3, e4, e5, rfl, by omega, fun j hj => by omega⟩ ?_
    clear e0 e3 e4 e5
    rintro i v h2 ih2 ⟨e0, e3, e4, e5, rfl, hi, hall⟩
    have stop : (k + i < src.size → fM (aT src ((k + i : Nat) : Int)) = false) → runN fM src k = i := fun hs => qR hall hi hs
    have hone : 1 ≤ runN fM src k := m9 hlt (by unfold fM; rw [decide_eq_true_eq]; exact h10)
    have done : runN fM src k = i → ∀ v : Env, v 0 = some (.string src) → v 3 = some (.pointer (some ⟨h.next, 0, none⟩)) → v 4 = some (.slice b n es) → v 5 = some (.int .i64 ((k + i : Nat) : Int)) → _ := fun hr v e0 e3 e4 e5 => ih (m, k + i, l) v h2 (by simp only; omega) ⟨e0, e3, e5, ⟨b, n, es, e4, ht⟩, ⟨hn, ho, hgr⟩, by simp only; omega, by simp only; omega, by simp only; omega, htk, by rw [hr] at hA; exact hA⟩
    refine QU (QN (Ma (w:=Ma (w:=Mr (w:=MF (w:=fun hh => Ma (w:=Ma (w:=Ma (w:=Mm (w:=ME (w:=fun hh => Mc (w:=QQ (UA (Bk (QV (Ma (w:=Mf (w:=Mb (w:=QL ?_))))))))) (v:=fun hh => Mc (w:=QP (WC.exit (aG (WC.exit (aG ?_))))))))))) (v:=fun hh => Ma (w:=MA (w:=MA (w:=MA (w:=MA (w:=Md (w:=QP (WC.exit (aG (WC.exit (aG ?_))))))))))))))))
    ·refine ih2 (i + 1) _ _ (by omega) ⟨e0, e3, e4, rfl, rfl, by omega, fun j hj => ?_⟩
     rcases Nat.lt_succ_iff_lt_or_eq.1 hj with hj | rfl
     ·exact hall j hj
     ·unfold fM; rw [decide_eq_true_eq]; exact hh
    ·exact done (stop fun _ => by unfold fM; rw [decide_eq_false_iff_not]; exact hh) _ e0 e3 e4 e5
    ·exact done (stop fun hx => by omega) _ e0 e3 e4 e5
   ·exact (hh hs1.2).elim
 ·rw [if_pos (by omega)] at hA
  obtain rfl : k = src.size := by omega
  have hll := mZ src.size l
  refine QU (QN (Ma (w:=Ma (w:=Mr (w:=MF (w:=fun hh => by omega) (v:=fun hh => QP (WC.exit (aG (QN (Ma (w:=Ma (w:=Mr (w:=MJ aKz (w:=zM ht (by omega) htk (by omega) fun h2 b2 n2 es2 g2 ht2 => ?_))))))))))))))
  have hn2 := g2.1
  have o2 := g2.at hn ho
  have hlen := ht2.len
  have htk2 := wF (k := src.size) htk
  generalize eJ src.size l = l2 at *
  refine Mb (w:=QO (Ma (w:=Ma (w:=Mr (w:=Mn (w:=Mz (w:=QK ?_)))))))
  apply WS.append
  (· rfl); (· rfl); (· exact aD); (· exact aD); (· rfl); (· rfl); (· intro k hk; cases hk); (· exact aX rfl); (· decide); (· exact aA); (· exact fC); (· rfl); (· unfold room; omega); (· rfl)
  (· refine lB.at (l := l2) (ht2.mono ?_ fun j _ hj => ?_); (· exact aB); (· exact bJ))
  intro h3 hn3 ho3 hf3
  simp only [UB, UC] at hn3 ho3 hf3
  have hb : ∀ i, i < h.next + 1 → ∀ off, b2 ≠ some ⟨i, off, none⟩ := fun i hi => by rcases ht2 with ⟨rfl, _⟩ | ⟨i, rfl, h1, _⟩ <;> intro off e <;> cases e; omega
  have o3 : h3.obj h.next = some (.cells false [.int .i64 0, .int .i64 0]) := by rw [hf3 _ (by omega) (hb _ (by omega))]; exact aA
  have g3 : ∀ j, j < h.next → h3.obj j = h.obj j := fun j hj => by rw [hf3 _ (by omega) (hb _ (by omega)), ← hgr j hj, ← g2.2 j (by omega)]; exact bJ
  rw [← hA, if_pos (show c8.ok.isOk = true from rfl)] at hS
  simp only at hS
  have hL : ∀ t ∈ l2 ++ [⟨6, ⟨#[]⟩, 0, (src.size : Nat)⟩], t.kind = 5 → dE marks t.text = true := by
   intro t ht h5
   rcases List.mem_append.1 ht with ht | ht
   ·rcases htk2 t ht with h1 | ⟨h4, _⟩ | ⟨_, h⟩
    ·omega
    ·omega
    ·exact h
   ·rw [List.mem_singleton.1 ht] at h5; cases h5
  have oL : h3.obj (h2.next + 1) = some (.cells false (cellsOf (l2 ++ [⟨6, ⟨#[]⟩, 0, (src.size : Nat)⟩]))) := ho3.trans (by simp [cellsOf, Tok.cells])
  have nL : n2 + 1 = (l2 ++ [(⟨6, ⟨#[]⟩, 0, (src.size : Nat)⟩ : Tok)]).length := by simp [hlen]
  generalize l2 ++ [(⟨6, ⟨#[]⟩, 0, (src.size : Nat)⟩ : Tok)] = L at *
  generalize hD : fD L 0 = D at *
  refine Mb (w:=QO (Mb (w:=QL (QU (QN (Mb (w:=QL (Bk ?_))))))))
  refine WC.bK hX (α := Nat × Int) (m := fun a => L.length - a.1) (Inv := fun a v h' => v 3 = some (.pointer (some ⟨h.next, 0, none⟩)) ∧ v 4 = some (.slice (some ⟨h2.next + 1, 0, none⟩) (n2 + 1) 4) ∧ v 9 = some (.int .i64 a.2) ∧ v 10 = some (.int .i64 ((a.1 : Nat) : Int)) ∧ h' = h3 ∧ a.1 ≤ L.length ∧ 0 ≤ a.2 ∧ a.2 ≤ 40 ∧ fD (L.drop a.1) a.2 = D)
   (0, 0) ⟨e3, rfl, rfl, rfl, rfl, by simp, by simp, by simp, hD⟩ ?_
  clear e0 e3 e4 e5
  rintro ⟨i, c⟩ v h4 ih2 ⟨e3, e4, e9, e10, rfl, hi, hc0, hc1, hd⟩
  simp only at e9 e10 hi hc0 hc1 hd
  by_cases hil : i < L.length
  ·have he := List.getElem?_eq_getElem hil
   have hm := hL _ (List.getElem_mem hil)
   rw [List.drop_eq_getElem_cons hil] at hd
   generalize L[i] = t at *
   have c0 := uA he (f := 0) (by omega)
   have c1 := uA he (f := 1) (by omega)
   have c3 := uA he (f := 3) (by omega)
   have hlc := bD L
   refine QU (QN (Ma (w:=Ma (w:=Ms (w:=MF (w:=fun hh => QQ (UA (QU (Bk (QU (QN (Ma (w:=Ma (w:=Ml (w:=Mj (w:=QK ?_))))))))))) (v:=fun hh => by omega))))))
   refine WS.jQ (v := .int .i64 t.kind) (hc := ?_) (hk := ?_)
   (· rw [← show t.cells[0]? = some (.int .i64 t.kind) from rfl, ← c0]; congr 1; omega)
   have next : ∀ c' : Int, 0 ≤ c' → c' ≤ 40 → fD (L.drop (i + 1)) c' = D → ∀ v : Env, v 3 = some (.pointer (some ⟨h.next, 0, none⟩)) → v 4 = some (.slice (some ⟨h2.next + 1, 0, none⟩) (n2 + 1) 4) → v 9 = some (.int .i64 c') → v 10 = some (.int .i64 ((i : Int) + 1)) → _ := fun c' h0 h40 hd v e3 e4 e9 e10 => ih2 (i + 1, c') v h4 (by simp only; omega) ⟨e3, e4, e9, by rw [e10]; rfl, rfl, by simp only; omega, h0, h40, hd⟩
   unfold fD at hd
   refine ME (w:=fun hh => QQ (WC.exit (aG (QV (Ma (w:=Mf (w:=Mb (w:=QL ?_)))))))) (v:=fun hh => QP (UA (QU (QN (Ma (w:=Ma (w:=Ml (w:=Mj (w:=QK ?_)))))))))
   ·rw [if_pos hh] at hd
    exact next c hc0 hc1 hd _ e3 e4 e9 rfl
   rw [if_neg hh] at hd
   have hm5 := hm (by omega)
   refine WS.jQ (v := .string t.text) (hc := ?_) (hk := ?_)
   (· rw [← show t.cells[1]? = some (.string t.text) from rfl, ← c1]; congr 1; omega)
   refine MJ uX (w:=tC aEq (pR hm5) (by decide) (nR hm5) ?_)
   cases hop : dE pF t.text
   ·rw [hop, if_neg Bool.false_ne_true] at hd
    refine QP (UA (QU (QN (Ma (w:=MH (w:=fun hh => by omega) (v:=fun hh => QP (UA (QN (Ma (w:=MH (w:=fun hh => Ma (w:=Ma (w:=Ma (w:=Ml (w:=Mj (w:=QK ?_)))))) (v:=fun hh => Ma (w:=MA (w:=MA (w:=MA (w:=MA (w:=MA (w:=MA (w:=Md (w:=QP (UA (QV (Ma (w:=Mf (w:=Mb (w:=QL ?_)))))))))))))))))))))))))
    ·refine WS.jQ (v := .string t.text) (hc := ?_) (hk := ?_)
     (· rw [← show t.cells[1]? = some (.string t.text) from rfl, ← c1]; congr 1; omega)
     refine MJ uX (w:=tC wR (pR hm5) (by decide) (nR hm5) ?_)
     cases hcl : dE lP t.text
     ·rw [hcl, if_neg Bool.false_ne_true] at hd
      refine Mc (w:=QP (UA (QV (Ma (w:=Mf (w:=Mb (w:=QL ?_)))))))
      exact next c hc0 hc1 hd _ e3 e4 e9 rfl
     ·rw [hcl, if_pos rfl] at hd
      refine Mc (w:=QQ (QV (Ma (w:=Mg (w:=Mb (w:=QL (QV (Ma (w:=Mf (w:=Mb (w:=QL ?_)))))))))))
      exact next (c - 1) (by omega) (by omega) (by rw [← hd]; congr 1; split <;> omega) _ e3 e4 rfl rfl
    ·have hc : c = 0 := by omega
     subst hc
     refine next 0 hc0 hc1 ?_ _ e3 e4 e9 rfl
     rw [← hd]
     split
     ·rfl
     ·rfl
   ·have hcl := xE hop
    rw [hop, if_pos rfl] at hd
    refine QQ (QV (Ma (w:=Mf (w:=Mb (w:=QL (QU (QN (Ma (w:=MH (w:=fun hh => QQ (QU (Gd [⟨0, .pure, 0⟩, ⟨1, .pure, 0⟩, ⟨2, .pure, 3⟩, ⟨3, .pure, 7⟩, ⟨4, .read, 15⟩, ⟨5, .pure, 31⟩, ⟨6, .pure, 0⟩, ⟨7, .aC, 127⟩] (w:=Da (w:=Da (w:=Dl (w:=Dj (w:=?_)))))))) (v:=?_))))))))));refine WD.read (hw := ?_);rotate_left;intro hh;refine QP (UA (QN (Ma (w:=MH (w:=fun hh => Ma (w:=Ma (w:=Ma (w:=Ml (w:=Mj (w:=QK ?_)))))) (v:=?_)))));rotate_left;intro hh;exfalso;omega
    ·rw [if_pos (by omega)] at hd
     subst hd
     simp only at hS
     rw [hS] at hq
     refine WS.jQ (v := .int .i64 t.pos) (hc := ?_) (hk := ?_)
     (· rw [← show t.cells[3]? = some (.int .i64 t.pos) from rfl, ← c3]; congr 1; omega)
     refine Dn (w:=Db (w:=?_));refine WD.aC hX (hw := Qv ?_);refine WD.nil (hq:=WC.ret ?_)
     refine ⟨_, aJ, ?_⟩
     exact hq _ none 0 0 ⟨aB, fun j hj => by rw [← g3 j hj]; exact bJ⟩ (.inl ⟨rfl, rfl, rfl, rfl⟩)
    ·rw [if_neg (by omega)] at hd
     refine WS.jQ (v := .string t.text) (hc := ?_) (hk := ?_)
     (· rw [← show t.cells[1]? = some (.string t.text) from rfl, ← c1]; congr 1; omega)
     refine MJ uX (w:=tC wR (pR hm5) (by decide) (nR hm5) ?_)
     rw [hcl]
     refine Mc (w:=QP (UA (QV (Ma (w:=Mf (w:=Mb (w:=QL ?_)))))))
     exact next (c + 1) (by omega) (by omega) hd _ e3 e4 rfl rfl
  ·obtain rfl : i = L.length := by omega
   rw [List.drop_length] at hd
   unfold fD at hd
   subst hd
   simp only at hS
   rw [hS] at hq
   refine QU (QN (Ma (w:=Ma (w:=Ms (w:=MF (w:=fun hh => by omega) (v:=fun hh => QP (WC.exit (aG (QN (Ma (w:=Mn (w:=Mb (w:=Mv (w:=QM ?_))))))))))))))
   refine ⟨_, aJ, ?_⟩
   exact hq _ _ _ _ ⟨aB, fun j hj => by rw [← g3 j hj]; exact bJ⟩ (.inr ⟨_, rfl, aB, aB, rfl, nL, aA⟩)

end Go.Proofs.ZL
end
