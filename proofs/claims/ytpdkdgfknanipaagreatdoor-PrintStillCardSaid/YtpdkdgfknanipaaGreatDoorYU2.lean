/- The lexer on lists. -/
import Derived.Test.YtpdkdgfknanipaaGreatDoorYL3
section
open Go Go.Am
namespace Go.Proofs.ZL
set_option maxRecDepth 100000
set_option linter.unusedSimpArgs false
set_option linter.unusedVariables false
set_option maxHeartbeats 4000000
variable {h : aA} {Q : bR → Prop} {L : List Tok} {p : Nat} {src : ByteArray}
def hd (r : List UInt8) : Int := ((r.head?.getD 0).toNat : Int)
def pG (r : List UInt8) : ByteArray := ⟨r.toArray⟩
def gF (p : Int → Bool) (r : List UInt8) : Nat := (r.takeWhile fun b => p b.toNat).length

def aBp (r : List UInt8) (k : Nat) (l : List Tok) : Out :=
 if 24 < gF dQ r then ⟨.long ⟨#[97, 32, 110, 97, 109, 101]⟩ k, k, l⟩
 else ⟨.ok, k + gF dQ r, l ++ [⟨if lR words (pG (r.take (gF dQ r))) then 4 else 1, pG (r.take (gF dQ r)), 0, k⟩]⟩
def sM (r : List UInt8) (k : Nat) (l : List Tok) : Out :=
 if 18 < gF bN r then ⟨.long ⟨#[97, 32, 110, 117, 109, 98, 101, 114]⟩ k, k, l⟩
 else if 1 < gF bN r ∧ hd r = 48 then ⟨.stuck k, k, l⟩
 else if gF bN r < r.length ∧ eU (hd (r.drop (gF bN r))) = true then ⟨.stuck (k + gF bN r), k, l⟩
 else ⟨.ok, k + gF bN r, l ++ [⟨2, pG (r.take (gF bN r)), rL (r.take (gF bN r)) 0, k⟩]⟩
def iJ (k : Nat) (l : List Tok) : List UInt8 → Nat → List Int → Out
 | [], i, _ => ⟨.stuck i, k, l⟩
 | [c], i, out =>
  if (c.toNat : Int) = 34 then (if 256 < out.length then ⟨.long ⟨#[97, 32, 116, 101, 120, 116]⟩ k, k, l⟩ else ⟨.ok, i + 1, l ++ [⟨3, strOf out, 0, k⟩]⟩)
  else if (c.toNat : Int) = 92 then ⟨.stuck i, k, l⟩
  else if (c.toNat : Int) < 32 ∨ 126 < (c.toNat : Int) then ⟨.stuck i, k, l⟩
  else ⟨.stuck (i + 1), k, l⟩
 | c :: d :: r, i, out =>
  if (c.toNat : Int) = 34 then (if 256 < out.length then ⟨.long ⟨#[97, 32, 116, 101, 120, 116]⟩ k, k, l⟩ else ⟨.ok, i + 1, l ++ [⟨3, strOf out, 0, k⟩]⟩)
  else if (c.toNat : Int) = 92 then
   (if (d.toNat : Int) = 110 ∨ (d.toNat : Int) = 34 ∨ (d.toNat : Int) = 92 then iJ k l r (i + 2) (out ++ [if (d.toNat : Int) = 110 then 10 else (d.toNat : Int)]) else ⟨.stuck i, k, l⟩)
  else if (c.toNat : Int) < 32 ∨ 126 < (c.toNat : Int) then ⟨.stuck i, k, l⟩
  else iJ k l (d :: r) (i + 1) (out ++ [(c.toNat : Int)])
def sF (r : List UInt8) : List UInt8 :=
 if 2 ≤ r.length ∧ lR marks (pG (r.take 2)) = true then r.take 2 else if 1 ≤ r.length ∧ lR marks (pG (r.take 1)) = true then r.take 1 else []
def jT (r : List UInt8) (k : Nat) (l : List Tok) : Out :=
 if hd r = 32 ∨ hd r = 9 then ⟨.ok, k + 1, l⟩
 else if hd r = 10 then ⟨.ok, k + 1, iI k l⟩
 else if r.take 2 = [47, 47] then ⟨.ok, k + gF nE r, l⟩
 else if eU (hd r) then aBp r k l
 else if bN (hd r) then sM r k l
 else if hd r = 34 then iJ k l r.tail (k + 1) []
 else if sF r = [] then ⟨.stuck k, k, l⟩
 else ⟨.ok, k + (sF r).length, l ++ [⟨5, pG (sF r), 0, k⟩]⟩

def pC (src : ByteArray) (k : Nat) : List UInt8 := src.data.toList.drop k
theorem sT (src : ByteArray) (k : Nat) : (pC src k).length = src.size - k := by
 unfold pC; rw [List.length_drop]; simp
theorem pH (src : ByteArray) (k : Nat) : bD src (k : Int) = hd (pC src k) := by
 unfold bD hd pC
 rw [List.getD_eq_getElem?_getD, Int.toNat_natCast, List.head?_drop]
theorem p3 (src : ByteArray) (k n : Nat) : (pC src k).drop n = pC src (k + n) := by
 unfold pC; rw [List.drop_drop]
theorem aEx (src : ByteArray) (k n : Nat) : sub src k n = pG ((pC src k).take n) := by
 apply ByteArray.ext
 apply Array.toList_inj.1
 rw [sub_eq, ByteArray.data_extract, Array.toList_extract, List.extract_eq_take_drop]
 show _ = ((pC src k).take n)
 unfold pC
 rw [show k + n - k = n by omega]
theorem aBz {k : Nat} : rest src k = pG (pC src k) := by
 unfold rest
 rw [vB]
 apply ByteArray.ext
 apply Array.toList_inj.1
 rw [ByteArray.data_extract, Array.toList_extract, List.extract_eq_take_drop]
 show _ = pC src k
 unfold pC
 simp only [Int.toNat_natCast]
 rw [List.take_of_length_le (by rw [List.length_drop]; simp)]
theorem rV (r : List UInt8) : (pG r).size = r.length := by
 show (pG r).data.size = _
 simp [pG]
theorem vW (r : List UInt8) : (pG r).data.toList = r := by simp [pG]
theorem y4 (r : List UInt8) (n : Nat) : jG (pG r) 0 (n : Int) = pG (r.take n) := by
 rw [vB]
 apply ByteArray.ext
 apply Array.toList_inj.1
 rw [ByteArray.data_extract, Array.toList_extract, List.extract_eq_take_drop]
 simp [pG]
theorem aD0 {a b : List UInt8} (h : pG a = pG b) : a = b := by
 have := congrArg (fun x => x.data.toList) h
 simpa [pG] using this
theorem aB1 {k : Nat} : sX src k = decide ((pC src k).take 2 = [47, 47]) := by
 unfold sX
 rw [aBz, rV, show (((⟨#[47, 47]⟩ : ByteArray).size : Nat) : Int) = ((2 : Nat) : Int) from rfl, y4, decide_eq_decide]
 have e : ⟨#[47, 47]⟩ = pG [47, 47] := rfl
 rw [e]
 constructor
 ·intro h; exact aD0 h.2
 ·intro h
  refine ⟨?_, congrArg pG h⟩
  have := congrArg List.length h
  rw [List.length_take] at this
  show 2 ≤ _
  simp only [List.length_cons, List.length_nil] at this
  omega
theorem aDd (r : List UInt8) : eD (pG r) = pG (sF r) := by
 unfold eD sF
 rw [rV, show (2 : Int) = ((2 : Nat) : Int) from rfl, show (1 : Int) = ((1 : Nat) : Int) from rfl, y4, y4]
 split
 ·rfl
 ·split <;> rfl
theorem oS {k : Nat} {l : List Tok} : ∀ (m i : Nat) (out : List Int), i ≤ src.size → src.size < i + m → kD src k l m i out = iJ k l (pC src i) i out
 | 0, i, out, h1, h2 => by omega
 | m + 1, i, out, h1, h2 => by
  have hlen := sT src i
  have hb := pH src i
  have hb1 := pH src (i + 1)
  have hd1 := p3 src i 1
  have hd2 := p3 src i 2
  generalize hr : pC src i = r at *
  unfold kD
  match r, hlen, hb, hd1, hd2 with
  | [], hlen, hb, hd1, hd2 =>
   simp only [List.length_nil] at hlen
   rw [if_pos (by omega), show src.size = i by omega]; rfl
  | [c], hlen, hb, hd1, hd2 =>
   simp only [List.length_cons, List.length_nil] at hlen
   have hbc : bD src (i : Int) = (c.toNat : Int) := hb.trans rfl
   rw [if_neg (by omega), hbc]
   unfold iJ
   by_cases c1 : (c.toNat : Int) = 34
   ·rw [if_pos c1, if_pos c1]
   rw [if_neg c1, if_neg c1]
   by_cases c2 : (c.toNat : Int) = 92
   ·rw [if_pos c2, if_pos c2, if_neg (by omega)]
   rw [if_neg c2, if_neg c2]
   by_cases c3 : (c.toNat : Int) < 32 ∨ 126 < (c.toNat : Int)
   ·rw [if_pos c3, if_pos c3]
   ·rw [if_neg c3, if_neg c3, oS m (i + 1) _ (by omega) (by omega), ← hd1]; rfl
  | c :: d :: r, hlen, hb, hd1, hd2 =>
   simp only [List.length_cons] at hlen
   have hbc : bD src (i : Int) = (c.toNat : Int) := hb.trans rfl
   rw [if_neg (by omega), hbc]
   have hb1' : bD src ((i + 1 : Nat) : Int) = (d.toNat : Int) := by rw [hb1, ← hd1]; rfl
   unfold iJ
   rw [hb1']
   by_cases c1 : (c.toNat : Int) = 34
   ·rw [if_pos c1, if_pos c1]
   rw [if_neg c1, if_neg c1]
   by_cases c2 : (c.toNat : Int) = 92
   ·rw [if_pos c2, if_pos c2]
    by_cases hx : (d.toNat : Int) = 110 ∨ (d.toNat : Int) = 34 ∨ (d.toNat : Int) = 92
    ·rw [if_pos ⟨by omega, hx⟩, if_pos hx, oS m (i + 2) _ (by omega) (by omega), ← hd2]; rfl
    ·rw [if_neg (by intro h; exact hx h.2), if_neg hx]
   rw [if_neg c2, if_neg c2]
   by_cases c3 : (c.toNat : Int) < 32 ∨ 126 < (c.toNat : Int)
   ·rw [if_pos c3, if_pos c3]
   ·rw [if_neg c3, if_neg c3, oS m (i + 1) _ (by omega) (by omega), ← hd1]; rfl

theorem tP {k : Nat} {l : List Tok} (hk : k < src.size) : dD src k l = jT (pC src k) k l := by
 have hb := pH src k
 have hsl := aB1 (src := src) (k := k)
 have hm : eD (rest src k) = pG (sF (pC src k)) := by rw [aBz, aDd]
 unfold dD jT
 rw [hb, hsl, hm]
 simp only [decide_eq_true_eq]
 have hR : ∀ p : Int → Bool, runN p src k = gF p (pC src k) := fun p => rfl
 split
 ·rfl
 split
 ·rfl
 split
 ·rw [hR]
 split
 ·unfold pX aBp; rw [hR, aEx]
 split
 ·rename_i hdg
  unfold dE sM
  rw [hR, aEx]
  have hrun : 1 ≤ gF bN (pC src k) := by
   rw [← hR]; exact sV hk (by rw [hb]; exact hdg)
  have h0 : bD (pG ((pC src k).take (gF bN (pC src k)))) 0 = hd (pC src k) := by
   have := pH (pG ((pC src k).take (gF bN (pC src k)))) 0
   rw [show ((0 : Nat) : Int) = (0 : Int) from rfl] at this
   rw [this]
   unfold pC hd
   rw [vW, List.drop_zero]
   have hn' : 1 ≤ gF bN (src.data.toList.drop k) := hrun
   generalize List.drop k src.data.toList = r at *
   obtain ⟨n, hn⟩ : ∃ n, gF bN r = n + 1 := ⟨gF bN r - 1, by omega⟩
   rw [hn]
   cases r <;> rfl
  have h1 : bD src ((k : Int) + (gF bN (pC src k) : Int)) = hd ((pC src k).drop (gF bN (pC src k))) := by
   rw [p3, ← pH, Int.natCast_add]
  have h2 : k + gF bN (pC src k) < src.size ↔ gF bN (pC src k) < (pC src k).length := by rw [sT]; omega
  rw [h0, h1]
  simp only [h2, numOf, vW]
 split
 ·unfold xH
  rw [oS (src.size + 1) (k + 1) [] (by omega) (by omega)]
  congr 1
  rw [← p3, List.drop_one]
 have he : pG (sF (pC src k)) = ⟨#[]⟩ ↔ sF (pC src k) = [] := ⟨fun h => aD0 (b := []) h, fun h => by rw [h]; rfl⟩
 simp only [he, rV]

inductive hE : List UInt8 → Nat → List Tok → Out → Prop
 | done (k : Nat) (l : List Tok) : hE [] k l ⟨.ok, k, iI k l ++ [⟨6, ⟨#[]⟩, 0, k⟩]⟩
 | fail {r : List UInt8} {k : Nat} {l : List Tok} : r ≠ [] → (jT r k l).err.isOk = false → hE r k l (jT r k l)
 | step {r : List UInt8} {k : Nat} {l : List Tok} {o : Out} (n : Nat) (l' : List Tok) : 0 < n → n ≤ r.length → jT r k l = ⟨.ok, k + n, l'⟩ → hE (r.drop n) (k + n) l' o → hE r k l o

theorem hE.kP {r : List UInt8} {k : Nat} {l : List Tok} {o : Out} (h : hE r k l o) : ∀ m, k ≤ src.size → src.size < k + m → pC src k = r → kP src m k l = o := by
 induction h with
 | done k l =>
  intro m h1 h2 hr
  have := sT src k
  rw [hr] at this
  obtain ⟨m, rfl⟩ : ∃ j, m = j + 1 := ⟨m - 1, by omega⟩
  unfold ZL.kP
  rw [if_pos (by simp at this; omega)]
 | @fail r k l hne he =>
  intro m h1 h2 hr
  have := sT src k
  rw [hr] at this
  have : 0 < r.length := List.length_pos_iff.2 hne
  obtain ⟨m, rfl⟩ : ∃ j, m = j + 1 := ⟨m - 1, by omega⟩
  unfold ZL.kP
  rw [if_neg (by omega), tP (by omega), hr, he]; rfl
 | @step r k l o n l' h0 hn he hs ih =>
  intro m h1 h2 hr
  have := sT src k
  rw [hr] at this
  obtain ⟨m, rfl⟩ : ∃ j, m = j + 1 := ⟨m - 1, by omega⟩
  unfold ZL.kP
  rw [if_neg (by omega), tP (by omega), hr, he]
  simp only [dJ.isOk, if_true]
  exact ih m (by omega) (by omega) (by rw [← p3, hr])

theorem hE.pB {o : Out} (h : hE src.data.toList 0 [] o) : pB src = o := by
 unfold ZL.pB
 exact h.kP _ (by omega) (by omega) (by unfold pC; rw [List.drop_zero])

theorem aH3 {r : List UInt8} {k : Nat} {l : List Tok} (hr : r ≠ []) (h : (jT r k l).err.isOk = true) : ∃ n l', 0 < n ∧ n ≤ r.length ∧ jT r k l = ⟨.ok, k + n, l'⟩ ∧ l'.length ≤ l.length + 1 := by
 -- by way of a source whose rest it is
 let src : ByteArray := pG (List.replicate k 0 ++ r)
 have hrst : pC src k = r := by
  show ((pG (List.replicate k 0 ++ r)).data.toList).drop k = r
  rw [vW, List.drop_left' (by simp)]
 have hz : src.size = k + r.length := by
  show (pG (List.replicate k 0 ++ r)).size = _
  rw [rV]; simp
 have hlen : 0 < r.length := List.length_pos_iff.2 hr
 have he : dD src k l = jT r k l := by rw [tP (by omega), hrst]
 rw [← he] at h ⊢
 have hx := sK (by omega) h
 refine ⟨(dD src k l).pos - k, (dD src k l).list, by omega, by omega, ?_, hx.2.2⟩
 rw [show k + ((dD src k l).pos - k) = (dD src k l).pos by omega]
 have := aN9 h
 generalize dD src k l = x at *
 cases x; simp only at this; rw [this]

theorem hE.total : ∀ (m : Nat) (r : List UInt8) (k : Nat) (l : List Tok), r.length ≤ m → ∃ o, hE r k l o
 | m, [], k, l, _ => ⟨_, .done k l⟩
 | 0, a :: r, k, l, h => by simp at h
 | m + 1, a :: r, k, l, h => by
  cases he : (jT (a :: r) k l).err.isOk with
  | false => exact ⟨_, .fail (by simp) he⟩
  | true =>
   obtain ⟨n, l', h0, hn, hx, _⟩ := aH3 (by simp) he
   obtain ⟨o, ho⟩ := hE.total m ((a :: r).drop n) (k + n) l' (by rw [List.length_drop]; omega)
   exact ⟨o, .step n l' h0 hn hx ho⟩

theorem aIr {o : Out} (hz : src.size ≤ 8192) (h : hE src.data.toList 0 [] o) :
  eE src = if o.err.isOk then (match fK o.list 0 with | some p => ⟨[], 3, p⟩ | none => ⟨o.list, 0, 0⟩) else ⟨[], 2, o.err.pos⟩ := by
 unfold eE
 rw [if_neg (by omega), h.pB]
 by_cases he : o.err.isOk = true
 ·rw [if_pos he, if_pos he]; cases fK o.list 0 <;> rfl
 ·rw [if_neg he, if_neg he]

theorem aEr (p : Int → Bool) (r : List UInt8) : gF p r ≤ r.length := (List.takeWhile_sublist _).length_le
def Tok.sh (K : Nat) (t : Tok) : Tok := { t with pos := t.pos + K }
def dJ.sh (K : Nat) : dJ → dJ
 | .ok => .ok
 | .stuck k => .stuck (K + k)
 | .long w k => .long w (K + k)
def Out.sh (K : Nat) (L : List Tok) (o : Out) : Out := ⟨o.err.sh K, K + o.pos, L ++ o.list.map (Tok.sh K)⟩

theorem aG8 {K : Nat} (hL : mJ L = false) (l : List Tok) : mJ (L ++ l.map (Tok.sh K)) = mJ l := by
 rcases List.eq_nil_or_concat l with rfl | ⟨l', t, rfl⟩
 ·rw [List.map_nil, List.append_nil, hL]; rfl
 ·unfold mJ
  simp [List.concat_eq_append, List.map_append, ← List.append_assoc, lL, Tok.sh]
theorem aBh {K : Nat} (hL : mJ L = false) (k : Nat) (l : List Tok) : iI (K + k) (L ++ l.map (Tok.sh K)) = L ++ (iI k l).map (Tok.sh K) := by
 unfold iI
 rw [aG8 hL]
 split
 ·simp [Tok.sh, Int.add_comm]
 ·rfl
theorem xG {K : Nat} {L : List Tok} {k : Nat} {l : List Tok} : ∀ (m : Nat) (r : List UInt8) (i : Nat) (out : List Int), r.length ≤ m → iJ (K + k) (L ++ l.map (Tok.sh K)) r (K + i) out = (iJ k l r i out).sh K L
 | m, [], i, out, _ => by unfold iJ; rfl
 | 0, a :: r, _, _, h => by simp at h
 | m + 1, [c], i, out, _ => by
  unfold iJ
  by_cases c1 : (c.toNat : Int) = 34
  ·rw [if_pos c1, if_pos c1]
   split
   ·rfl
   ·simp [Out.sh, dJ.sh, Tok.sh, Int.add_comm, Nat.add_assoc]
  rw [if_neg c1, if_neg c1]
  split
  ·rfl
  split
  ·rfl
  ·rfl
 | m + 1, c :: d :: r, i, out, h => by
  have ih1 := xG (K := K) (L := L) (k := k) (l := l) m (d :: r) (i + 1) (out ++ [(c.toNat : Int)]) (by simp at h ⊢; omega)
  have ih2 := xG (K := K) (L := L) (k := k) (l := l) m r (i + 2) (out ++ [if (d.toNat : Int) = 110 then 10 else (d.toNat : Int)]) (by simp at h ⊢; omega)
  unfold iJ
  by_cases c1 : (c.toNat : Int) = 34
  ·rw [if_pos c1, if_pos c1]
   split
   ·rfl
   ·simp [Out.sh, dJ.sh, Tok.sh, Int.add_comm, Nat.add_assoc]
  rw [if_neg c1, if_neg c1]
  by_cases c2 : (c.toNat : Int) = 92
  ·rw [if_pos c2, if_pos c2]
   by_cases c4 : (d.toNat : Int) = 110 ∨ (d.toNat : Int) = 34 ∨ (d.toNat : Int) = 92
   ·rw [if_pos c4, if_pos c4]; exact ih2
   ·rw [if_neg c4, if_neg c4]; rfl
  rw [if_neg c2, if_neg c2]
  by_cases c3 : (c.toNat : Int) < 32 ∨ 126 < (c.toNat : Int)
  ·rw [if_pos c3, if_pos c3]; rfl
  ·rw [if_neg c3, if_neg c3]; exact ih1

theorem wY {K : Nat} (hL : mJ L = false) (r : List UInt8) (k : Nat) (l : List Tok) : jT r (K + k) (L ++ l.map (Tok.sh K)) = (jT r k l).sh K L := by
 have ht := xG (K := K) (L := L) (k := k) (l := l) _ r.tail (k + 1) [] (Nat.le_refl _)
 unfold jT
 split
 ·rfl
 split
 ·rw [aBh hL]; rfl
 split
 ·simp [Out.sh, dJ.sh, Nat.add_assoc]
 split
 ·unfold aBp
  split
  ·rfl
  ·simp [Out.sh, dJ.sh, Tok.sh, Int.add_comm, Nat.add_assoc]
 split
 ·unfold sM
  split
  ·rfl
  split
  ·rfl
  split
  ·simp [Out.sh, dJ.sh, Nat.add_assoc]
  ·simp [Out.sh, dJ.sh, Tok.sh, Int.add_comm, Nat.add_assoc]
 split
 ·exact ht
 split
 ·rfl
 ·simp [Out.sh, dJ.sh, Tok.sh, Int.add_comm, Nat.add_assoc]

theorem dJ.aP8 (K : Nat) (e : dJ) : (e.sh K).isOk = e.isOk := by cases e <;> rfl

theorem hE.sh {K : Nat} (hL : mJ L = false) {r : List UInt8} {k : Nat} {l : List Tok} {o : Out} (h : hE r k l o) : hE r (K + k) (L ++ l.map (Tok.sh K)) (o.sh K L) := by
 induction h with
 | done k l =>
  have := hE.done (K + k) (L ++ l.map (Tok.sh K))
  rw [aBh hL] at this
  simpa [Out.sh, dJ.sh, Tok.sh, Int.add_comm] using this
 | @fail r k l hne he =>
  rw [← wY hL]
  exact .fail hne (by rw [wY hL]; show (dJ.sh K _).isOk = false; rw [dJ.aP8]; exact he)
 | @step r k l o n l' h0 hn he hs ih =>
  refine .step n (L ++ l'.map (Tok.sh K)) h0 hn ?_ (by rw [Nat.add_assoc]; exact ih)
  rw [wY hL, he]
  simp [Out.sh, dJ.sh, Nat.add_assoc]

theorem aCy (k : Nat) (l : List Tok) : mJ (iI k l) = false := by
 unfold iI
 split
 ·unfold mJ
  rw [List.getLast?_append]
  rfl
 ·rename_i h; simpa using h

theorem rN {k : Nat} {l : List Tok} : ∀ (m : Nat) (r : List UInt8) (i : Nat) (out : List Int), r.length ≤ m → (iJ k l r i out).list = l ∨ ∃ t, (iJ k l r i out).list = l ++ [t] ∧ t.pos = (k : Int)
 | m, [], i, out, _ => by unfold iJ; exact .inl rfl
 | 0, a :: r, _, _, h => by simp at h
 | m + 1, [c], i, out, _ => by
  unfold iJ
  split
  ·split
   ·exact .inl rfl
   ·exact .inr ⟨_, rfl, rfl⟩
  split
  ·exact .inl rfl
  split
  ·exact .inl rfl
  ·exact .inl rfl
 | m + 1, c :: d :: r, i, out, h => by
  unfold iJ
  split
  ·split
   ·exact .inl rfl
   ·exact .inr ⟨_, rfl, rfl⟩
  split
  ·split
   ·exact rN m r _ _ (by simp at h ⊢; omega)
   ·exact .inl rfl
  split
  ·exact .inl rfl
  ·exact rN m (d :: r) _ _ (by simp at h ⊢; omega)
theorem wQ (k : Nat) (l : List Tok) : iI k l = l ∨ ∃ t, iI k l = l ++ [t] ∧ t.pos = (k : Int) := by
 unfold iI
 split
 ·exact .inr ⟨_, rfl, rfl⟩
 ·exact .inl rfl
theorem wX (r : List UInt8) (k : Nat) (l : List Tok) : (jT r k l).list = l ∨ ∃ t, (jT r k l).list = l ++ [t] ∧ t.pos = (k : Int) := by
 unfold jT
 split
 ·exact .inl rfl
 split
 ·exact wQ k l
 split
 ·exact .inl rfl
 split
 ·unfold aBp
  split
  ·exact .inl rfl
  ·exact .inr ⟨_, rfl, rfl⟩
 split
 ·unfold sM
  split
  ·exact .inl rfl
  split
  ·exact .inl rfl
  split
  ·exact .inl rfl
  ·exact .inr ⟨_, rfl, rfl⟩
 split
 ·exact rN _ _ _ _ (Nat.le_refl _)
 split
 ·exact .inl rfl
 ·exact .inr ⟨_, rfl, rfl⟩

theorem hE.pos {r : List UInt8} {k : Nat} {l : List Tok} {o : Out} (h : hE r k l o) : (∀ t ∈ l, 0 ≤ t.pos ∧ t.pos ≤ k) → ∀ t ∈ o.list, 0 ≤ t.pos ∧ t.pos ≤ (k + r.length : Nat) := by
 have hx : ∀ {k m : Nat} {l l' : List Tok}, (l' = l ∨ ∃ t, l' = l ++ [t] ∧ t.pos = (k : Int)) → k ≤ m → (∀ t ∈ l, 0 ≤ t.pos ∧ t.pos ≤ k) → ∀ t ∈ l', 0 ≤ t.pos ∧ t.pos ≤ (m : Nat) := by
  rintro k m l l' (rfl | ⟨t, rfl, ht⟩) hm hl u hu
  ·have := hl u hu; omega
  ·rcases List.mem_append.1 hu with hu | hu
   ·have := hl u hu; omega
   ·rw [List.mem_singleton.1 hu]; omega
 induction h with
 | done k l =>
  intro hl t ht
  rcases List.mem_append.1 ht with ht | ht
  ·exact hx (wQ k l) (by simp) hl t ht
  ·rw [List.mem_singleton.1 ht]; simp only [List.length_nil]; omega
 | @fail r k l hne he =>
  intro hl
  exact hx (wX r k l) (by omega) hl
 | @step r k l o n l' h0 hn he hs ih =>
  intro hl
  have hl' := wX r k l
  rw [he] at hl'
  have := ih (hx hl' (by omega) hl)
  intro t ht
  have h2 := this t ht
  rw [List.length_drop] at h2
  omega

theorem aIq (hz : src.size ≤ 8192) : ∃ o, hE src.data.toList 0 [] o ∧ eE src = if o.err.isOk then (match fK o.list 0 with | some p => ⟨[], 3, p⟩ | none => ⟨o.list, 0, 0⟩) else ⟨[], 2, o.err.pos⟩ := by
 obtain ⟨o, ho⟩ := hE.total _ src.data.toList 0 [] (Nat.le_refl _)
 exact ⟨o, ho, aIr hz ho⟩

def aOj (zs : List Int) : Prop := zs.length ≤ 256 ∧ ∀ z ∈ zs, z = 10 ∨ 32 ≤ z ∧ z ≤ 126
def Val (A : List Tok) (t : Tok) : Prop :=
 (t.kind = 3 ∧ t.num = 0 ∧ ∃ zs : List Int, t.text = strOf zs ∧ aOj zs) ∨
 (t.kind = 5 ∧ t.num = 1 ∧ t.text = ⟨#[59]⟩ ∧ mJ A = true) ∨
 (t.kind = 5 ∧ t.num = 0 ∧ lR marks t.text = true) ∨
 ((t.kind = 1 ∨ t.kind = 4) ∧ t.num = 0 ∧ ∃ u : List UInt8, t.text = pG u ∧ u ≠ [] ∧ eU (hd u) = true ∧ (∀ b ∈ u, dQ b.toNat = true) ∧ u.length ≤ 24 ∧ t.kind = if lR words t.text then 4 else 1) ∨
 (t.kind = 2 ∧ ∃ u : List UInt8, t.text = pG u ∧ u ≠ [] ∧ (∀ b ∈ u, bN b.toNat = true) ∧ u.length ≤ 18 ∧ ¬ (1 < u.length ∧ hd u = 48) ∧ t.num = rL u 0)

theorem tX {k : Nat} {l : List Tok} : ∀ (m : Nat) (r : List UInt8) (i : Nat) (out : List Int), r.length ≤ m → (∀ z ∈ out, z = 10 ∨ 32 ≤ z ∧ z ≤ 126) → (iJ k l r i out).err.isOk = true → ∃ t, (iJ k l r i out).list = l ++ [t] ∧ Val l t
 | m, [], i, out, _, _, h => by simp [iJ, dJ.isOk] at h
 | 0, a :: r, _, _, h, _, _ => by simp at h
 | m + 1, [c], i, out, _, ho, h => by
  unfold iJ at h ⊢
  split at h
  ·rename_i c1
   rw [if_pos c1]
   split at h
   ·simp [dJ.isOk] at h
   ·rename_i c2; rw [if_neg c2]; exact ⟨_, rfl, .inl ⟨rfl, rfl, out, rfl, by omega, ho⟩⟩
  ·split at h
   ·simp [dJ.isOk] at h
   ·split at h <;> simp [dJ.isOk] at h
 | m + 1, c :: d :: r, i, out, hm, ho, h => by
  have ih1 := fun hx => tX (k := k) (l := l) m (d :: r) (i + 1) (out ++ [(c.toNat : Int)]) (by simp at hm ⊢; omega) hx
  have ih2 := fun hx => tX (k := k) (l := l) m r (i + 2) (out ++ [if (d.toNat : Int) = 110 then 10 else (d.toNat : Int)]) (by simp at hm ⊢; omega) hx
  have snoc : ∀ z : Int, (z = 10 ∨ 32 ≤ z ∧ z ≤ 126) → ∀ y ∈ out ++ [z], y = 10 ∨ 32 ≤ y ∧ y ≤ 126 := fun z hz y hy => by
   rcases List.mem_append.1 hy with hy | hy
   ·exact ho y hy
   ·rw [List.mem_singleton.1 hy]; exact hz
  unfold iJ at h ⊢
  by_cases c1 : (c.toNat : Int) = 34
  ·rw [if_pos c1] at h ⊢
   split at h
   ·simp [dJ.isOk] at h
   ·rename_i c2; rw [if_neg c2]; exact ⟨_, rfl, .inl ⟨rfl, rfl, out, rfl, by omega, ho⟩⟩
  rw [if_neg c1] at h ⊢
  by_cases c2 : (c.toNat : Int) = 92
  ·rw [if_pos c2] at h ⊢
   by_cases c4 : (d.toNat : Int) = 110 ∨ (d.toNat : Int) = 34 ∨ (d.toNat : Int) = 92
   ·rw [if_pos c4] at h ⊢
    refine ih2 (snoc _ ?_) h
    split
    ·exact .inl rfl
    ·exact .inr (by omega)
   ·rw [if_neg c4] at h; simp [dJ.isOk] at h
  rw [if_neg c2] at h ⊢
  by_cases c3 : (c.toNat : Int) < 32 ∨ 126 < (c.toNat : Int)
  ·rw [if_pos c3] at h; simp [dJ.isOk] at h
  ·rw [if_neg c3] at h ⊢; exact ih1 (snoc _ (.inr (by omega))) h

theorem yS (k : Nat) (l : List Tok) : iI k l = l ∨ ∃ t, iI k l = l ++ [t] ∧ Val l t := by
 unfold iI
 split
 ·rename_i h; exact .inr ⟨_, rfl, .inr (.inl ⟨rfl, rfl, rfl, h⟩)⟩
 ·exact .inl rfl
theorem aEt {p : Int → Bool} (r : List UInt8) : ∀ b ∈ r.take (gF p r), p b.toNat = true := by
 intro b hb
 have h := List.prefix_iff_eq_take.1 (List.takeWhile_prefix (fun b : UInt8 => p b.toNat) (l := r))
 unfold gF at hb
 rw [← h] at hb
 exact List.all_eq_true.1 (List.all_takeWhile (p := fun b : UInt8 => p b.toNat) (l := r)) b hb
theorem aEu {p : Int → Bool} {r : List UInt8} (h : p (hd r) = true) (h0 : p 0 = false) : 0 < gF p r ∧ hd (r.take (gF p r)) = hd r := by
 cases r with
 | nil => exact (by rw [show hd [] = 0 from rfl, h0] at h; cases h)
 | cons a r =>
  have : gF p (a :: r) = gF p r + 1 := by
   unfold gF
   rw [List.takeWhile_cons, if_pos (by exact h)]
   simp
  rw [this]
  exact ⟨Nat.succ_pos _, rfl⟩
theorem aFi (r : List UInt8) (k : Nat) (l : List Tok) (h : (jT r k l).err.isOk = true) : (jT r k l).list = l ∨ ∃ t, (jT r k l).list = l ++ [t] ∧ Val l t := by
 unfold jT at h ⊢
 split
 ·exact .inl rfl
 rename_i c; rw [if_neg c] at h
 split
 ·exact yS k l
 rename_i c; rw [if_neg c] at h
 split
 ·exact .inl rfl
 rename_i c; rw [if_neg c] at h
 split
 ·rename_i c; rw [if_pos c] at h
  unfold aBp at h ⊢
  split
  ·exact .inl rfl
  ·rename_i h24
   obtain ⟨h1, h2⟩ := aEu (p := dQ) (r := r) (by unfold dQ; rw [c]; rfl) (by decide)
   have hl := aEr dQ r
   refine .inr ⟨_, rfl, .inr (.inr (.inr (.inl ⟨?_, rfl, r.take (gF dQ r), rfl, ?_, by rw [h2]; exact c, aEt r, by rw [List.length_take]; omega, rfl⟩)))⟩
   ·simp only; split <;> simp
   ·intro e; have := congrArg List.length e; rw [List.length_take, List.length_nil] at this; omega
 rename_i c; rw [if_neg c] at h
 split
 ·rename_i c; rw [if_pos c] at h
  unfold sM at h ⊢
  split
  ·exact .inl rfl
  rename_i h18
  split
  ·exact .inl rfl
  rename_i h0
  split
  ·exact .inl rfl
  obtain ⟨h1, h2⟩ := aEu (p := bN) (r := r) c (by decide)
  have hl := aEr bN r
  have hlt : (r.take (gF bN r)).length = gF bN r := by rw [List.length_take]; omega
  refine .inr ⟨_, rfl, .inr (.inr (.inr (.inr ⟨rfl, r.take (gF bN r), rfl, ?_, aEt r, by omega, by rw [h2, hlt]; exact h0, rfl⟩)))⟩
  intro e; have := congrArg List.length e; rw [hlt, List.length_nil] at this; omega
 rename_i c; rw [if_neg c] at h
 split
 ·rename_i c; rw [if_pos c] at h
  exact .inr (tX _ _ _ _ (Nat.le_refl _) (fun z hz => by cases hz) h)
 rename_i c; rw [if_neg c] at h
 split
 ·exact .inl rfl
 ·rename_i hne
  refine .inr ⟨_, rfl, .inr (.inr (.inl ⟨rfl, rfl, ?_⟩))⟩
  simp only
  unfold sF at hne ⊢
  split
  ·rename_i h; exact h.2
  ·rename_i h1
   rw [if_neg h1] at hne
   split
   ·rename_i h; exact h.2
   ·rename_i h2; rw [if_neg h2] at hne; exact (hne rfl).elim

def aGe (l : List Tok) : Prop := ∀ i t, l[i]? = some t → Val (l.take i) t
theorem aGe.snoc {l l' : List Tok} (h : aGe l) (hl : l' = l ∨ ∃ t, l' = l ++ [t] ∧ Val l t) : aGe l' := by
 rcases hl with rfl | ⟨t, rfl, ht⟩
 ·exact h
 ·intro i u hu
  rcases Nat.lt_trichotomy i l.length with hi | hi | hi
  ·rw [List.getElem?_append_left hi] at hu
   rw [List.take_append_of_le_length (Nat.le_of_lt hi)]
   exact h i u hu
  ·subst hi
   rw [List.getElem?_append_right (Nat.le_refl _), Nat.sub_self] at hu
   simp at hu
   subst hu
   rw [List.take_left' rfl]; exact ht
  ·rw [List.getElem?_eq_none (by simp; omega)] at hu; cases hu
theorem hE.aRd {r : List UInt8} {k : Nat} {l : List Tok} {o : Out} (h : hE r k l o) : aGe l → o.err.isOk = true → ∃ A, o.list = A ++ [⟨6, ⟨#[]⟩, 0, ((k + r.length : Nat) : Int)⟩] ∧ aGe A ∧ mJ A = false := by
 induction h with
 | done k l => exact fun hl _ => ⟨_, rfl, hl.snoc (yS k l), aCy k l⟩
 | @fail r k l hne he => intro _ h; rw [he] at h; cases h
 | @step r k l o n l' h0 hn he hs ih =>
  intro hl ho
  have h2 := aFi r k l (by rw [he]; rfl)
  rw [he] at h2
  obtain ⟨A, h1, h3⟩ := ih (hl.snoc h2) ho
  exact ⟨A, by rw [h1, List.length_drop, show k + n + (r.length - n) = k + r.length by omega], h3⟩

end Go.Proofs.ZL
end
