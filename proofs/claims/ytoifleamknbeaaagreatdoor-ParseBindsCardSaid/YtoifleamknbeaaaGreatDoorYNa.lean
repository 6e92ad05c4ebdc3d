/- The lexer on lists of bytes: the pure scan, seen from the rest of the source. -/
import Derived.Test.YtoifleamknbeaaaGreatDoorYL3
open Go Go.Am
namespace Go.Proofs.ZL
set_option maxRecDepth 100000
set_option linter.unusedSimpArgs false
set_option linter.unusedVariables false

def hd (r : List UInt8) : Int := ((r.head?.getD 0).toNat : Int)
def bts (r : List UInt8) : ByteArray := ⟨r.toArray⟩
def runL (p : Int → Bool) (r : List UInt8) : Nat := (r.takeWhile fun b => p b.toNat).length

def nameL (r : List UInt8) (k : Nat) (l : List Tok) : Out :=
 if 24 < runL alnumN r then ⟨.long (⟨#[97, 32, 110, 97, 109, 101]⟩ : ByteArray) k, k, l⟩
 else ⟨.ok, k + runL alnumN r, l ++ [⟨if inS words (bts (r.take (runL alnumN r))) then 4 else 1, bts (r.take (runL alnumN r)), 0, k⟩]⟩
def numberL (r : List UInt8) (k : Nat) (l : List Tok) : Out :=
 if 18 < runL digitN r then ⟨.long (⟨#[97, 32, 110, 117, 109, 98, 101, 114]⟩ : ByteArray) k, k, l⟩
 else if 1 < runL digitN r ∧ hd r = 48 then ⟨.stuck k, k, l⟩
 else if runL digitN r < r.length ∧ letterN (hd (r.drop (runL digitN r))) = true then ⟨.stuck (k + runL digitN r), k, l⟩
 else ⟨.ok, k + runL digitN r, l ++ [⟨2, bts (r.take (runL digitN r)), numL (r.take (runL digitN r)) 0, k⟩]⟩
def textL (k : Nat) (l : List Tok) : List UInt8 → Nat → List Int → Out
 | [], i, _ => ⟨.stuck i, k, l⟩
 | [c], i, out =>
  if (c.toNat : Int) = 34 then (if 256 < out.length then ⟨.long (⟨#[97, 32, 116, 101, 120, 116]⟩ : ByteArray) k, k, l⟩ else ⟨.ok, i + 1, l ++ [⟨3, strOf out, 0, k⟩]⟩)
  else if (c.toNat : Int) = 92 then ⟨.stuck i, k, l⟩
  else if (c.toNat : Int) < 32 ∨ 126 < (c.toNat : Int) then ⟨.stuck i, k, l⟩
  else ⟨.stuck (i + 1), k, l⟩
 | c :: d :: r, i, out =>
  if (c.toNat : Int) = 34 then (if 256 < out.length then ⟨.long (⟨#[97, 32, 116, 101, 120, 116]⟩ : ByteArray) k, k, l⟩ else ⟨.ok, i + 1, l ++ [⟨3, strOf out, 0, k⟩]⟩)
  else if (c.toNat : Int) = 92 then
   (if (d.toNat : Int) = 110 ∨ (d.toNat : Int) = 34 ∨ (d.toNat : Int) = 92 then textL k l r (i + 2) (out ++ [if (d.toNat : Int) = 110 then 10 else (d.toNat : Int)]) else ⟨.stuck i, k, l⟩)
  else if (c.toNat : Int) < 32 ∨ 126 < (c.toNat : Int) then ⟨.stuck i, k, l⟩
  else textL k l (d :: r) (i + 1) (out ++ [(c.toNat : Int)])
def markL (r : List UInt8) : List UInt8 :=
 if 2 ≤ r.length ∧ inS marks (bts (r.take 2)) = true then r.take 2 else if 1 ≤ r.length ∧ inS marks (bts (r.take 1)) = true then r.take 1 else []
def nextL (r : List UInt8) (k : Nat) (l : List Tok) : Out :=
 if hd r = 32 ∨ hd r = 9 then ⟨.ok, k + 1, l⟩
 else if hd r = 10 then ⟨.ok, k + 1, lineL k l⟩
 else if r.take 2 = [47, 47] then ⟨.ok, k + runL noLine r, l⟩
 else if letterN (hd r) then nameL r k l
 else if digitN (hd r) then numberL r k l
 else if hd r = 34 then textL k l r.tail (k + 1) []
 else if markL r = [] then ⟨.stuck k, k, l⟩
 else ⟨.ok, k + (markL r).length, l ++ [⟨5, bts (markL r), 0, k⟩]⟩

def rst (src : ByteArray) (k : Nat) : List UInt8 := src.data.toList.drop k
theorem rst_len (src : ByteArray) (k : Nat) : (rst src k).length = src.size - k := by
 unfold rst; rw [List.length_drop]; simp
theorem byteN_hd (src : ByteArray) (k : Nat) : byteN src (k : Int) = hd (rst src k) := by
 unfold byteN hd rst
 rw [List.getD_eq_getElem?_getD, Int.toNat_natCast, List.head?_drop]
theorem rst_drop (src : ByteArray) (k n : Nat) : (rst src k).drop n = rst src (k + n) := by
 unfold rst; rw [List.drop_drop]
theorem sub_bts (src : ByteArray) (k n : Nat) : sub src k n = bts ((rst src k).take n) := by
 apply ByteArray.ext
 apply Array.toList_inj.1
 rw [sub_eq, ByteArray.data_extract, Array.toList_extract, List.extract_eq_take_drop]
 show _ = ((rst src k).take n)
 unfold rst
 rw [show k + n - k = n by omega]
theorem rest_bts {src : ByteArray} {k : Nat} : rest src k = bts (rst src k) := by
 unfold rest
 rw [bsub_eq]
 apply ByteArray.ext
 apply Array.toList_inj.1
 rw [ByteArray.data_extract, Array.toList_extract, List.extract_eq_take_drop]
 show _ = rst src k
 unfold rst
 simp only [Int.toNat_natCast]
 rw [List.take_of_length_le (by rw [List.length_drop]; simp)]
theorem bts_size (r : List UInt8) : (bts r).size = r.length := by
 show (bts r).data.size = _
 simp [bts]
theorem bts_list (r : List UInt8) : (bts r).data.toList = r := by simp [bts]
theorem bts_sub (r : List UInt8) (n : Nat) : bsub (bts r) 0 (n : Int) = bts (r.take n) := by
 rw [bsub_eq]
 apply ByteArray.ext
 apply Array.toList_inj.1
 rw [ByteArray.data_extract, Array.toList_extract, List.extract_eq_take_drop]
 simp [bts]
theorem bts_inj {a b : List UInt8} (h : bts a = bts b) : a = b := by
 have := congrArg (fun x => x.data.toList) h
 simpa [bts] using this
theorem of_list (s : ByteArray) : bts s.data.toList = s := by
 apply ByteArray.ext; simp [bts]

theorem slashes_rst {src : ByteArray} {k : Nat} : slashes src k = decide ((rst src k).take 2 = [47, 47]) := by
 unfold slashes
 rw [rest_bts, bts_size, show (((⟨#[47, 47]⟩ : ByteArray).size : Nat) : Int) = ((2 : Nat) : Int) from rfl, bts_sub, decide_eq_decide]
 have e : (⟨#[47, 47]⟩ : ByteArray) = bts [47, 47] := rfl
 rw [e]
 constructor
 ·intro h; exact bts_inj h.2
 ·intro h
  refine ⟨?_, congrArg bts h⟩
  have := congrArg List.length h
  rw [List.length_take] at this
  show 2 ≤ _
  simp only [List.length_cons, List.length_nil] at this
  omega
theorem markOf_bts (r : List UInt8) : markOf (bts r) = bts (markL r) := by
 unfold markOf markL
 rw [bts_size, show (2 : Int) = ((2 : Nat) : Int) from rfl, show (1 : Int) = ((1 : Nat) : Int) from rfl, bts_sub, bts_sub]
 split
 ·rfl
 ·split <;> rfl
theorem textGo_rst {src : ByteArray} {k : Nat} {l : List Tok} : ∀ (m i : Nat) (out : List Int), i ≤ src.size → src.size < i + m → textGo src k l m i out = textL k l (rst src i) i out
 | 0, i, out, h1, h2 => by omega
 | m + 1, i, out, h1, h2 => by
  have hlen := rst_len src i
  have hb := byteN_hd src i
  have hb1 := byteN_hd src (i + 1)
  have hd1 := rst_drop src i 1
  have hd2 := rst_drop src i 2
  generalize hr : rst src i = r at *
  unfold textGo
  match r, hlen, hb, hd1, hd2 with
  | [], hlen, hb, hd1, hd2 =>
   simp only [List.length_nil] at hlen
   rw [if_pos (by omega), show src.size = i by omega]; rfl
  | [c], hlen, hb, hd1, hd2 =>
   simp only [List.length_cons, List.length_nil] at hlen
   have hbc : byteN src (i : Int) = (c.toNat : Int) := hb.trans rfl
   rw [if_neg (by omega), hbc]
   unfold textL
   by_cases c1 : (c.toNat : Int) = 34
   ·rw [if_pos c1, if_pos c1]
   rw [if_neg c1, if_neg c1]
   by_cases c2 : (c.toNat : Int) = 92
   ·rw [if_pos c2, if_pos c2, if_neg (by omega)]
   rw [if_neg c2, if_neg c2]
   by_cases c3 : (c.toNat : Int) < 32 ∨ 126 < (c.toNat : Int)
   ·rw [if_pos c3, if_pos c3]
   ·rw [if_neg c3, if_neg c3, textGo_rst m (i + 1) _ (by omega) (by omega), ← hd1]; rfl
  | c :: d :: r, hlen, hb, hd1, hd2 =>
   simp only [List.length_cons] at hlen
   have hbc : byteN src (i : Int) = (c.toNat : Int) := hb.trans rfl
   rw [if_neg (by omega), hbc]
   have hb1' : byteN src ((i + 1 : Nat) : Int) = (d.toNat : Int) := by rw [hb1, ← hd1]; rfl
   unfold textL
   rw [hb1']
   by_cases c1 : (c.toNat : Int) = 34
   ·rw [if_pos c1, if_pos c1]
   rw [if_neg c1, if_neg c1]
   by_cases c2 : (c.toNat : Int) = 92
   ·rw [if_pos c2, if_pos c2]
    by_cases hx : (d.toNat : Int) = 110 ∨ (d.toNat : Int) = 34 ∨ (d.toNat : Int) = 92
    ·rw [if_pos ⟨by omega, hx⟩, if_pos hx, textGo_rst m (i + 2) _ (by omega) (by omega), ← hd2]; rfl
    ·rw [if_neg (by intro h; exact hx h.2), if_neg hx]
   rw [if_neg c2, if_neg c2]
   by_cases c3 : (c.toNat : Int) < 32 ∨ 126 < (c.toNat : Int)
   ·rw [if_pos c3, if_pos c3]
   ·rw [if_neg c3, if_neg c3, textGo_rst m (i + 1) _ (by omega) (by omega), ← hd1]; rfl

theorem nextS_rst {src : ByteArray} {k : Nat} {l : List Tok} (hk : k < src.size) : nextS src k l = nextL (rst src k) k l := by
 have hb := byteN_hd src k
 have hsl := slashes_rst (src := src) (k := k)
 have hm : markOf (rest src k) = bts (markL (rst src k)) := by rw [rest_bts, markOf_bts]
 unfold nextS nextL
 rw [hb, hsl, hm]
 simp only [decide_eq_true_eq]
 have hR : ∀ p : Int → Bool, runN p src k = runL p (rst src k) := fun p => rfl
 split
 ·rfl
 split
 ·rfl
 split
 ·rw [hR]
 split
 ·unfold nameS nameL; rw [hR, sub_bts]
 split
 ·rename_i hdg
  unfold numberS numberL
  rw [hR, sub_bts]
  have hrun : 1 ≤ runL digitN (rst src k) := by
   rw [← hR]; exact runN_pos hk (by rw [hb]; exact hdg)
  have h0 : byteN (bts ((rst src k).take (runL digitN (rst src k)))) 0 = hd (rst src k) := by
   have := byteN_hd (bts ((rst src k).take (runL digitN (rst src k)))) 0
   rw [show ((0 : Nat) : Int) = (0 : Int) from rfl] at this
   rw [this]
   unfold rst hd
   rw [bts_list, List.drop_zero]
   have hn' : 1 ≤ runL digitN (src.data.toList.drop k) := hrun
   generalize List.drop k src.data.toList = r at *
   obtain ⟨n, hn⟩ : ∃ n, runL digitN r = n + 1 := ⟨runL digitN r - 1, by omega⟩
   rw [hn]
   cases r <;> rfl
  have h1 : byteN src ((k : Int) + (runL digitN (rst src k) : Int)) = hd ((rst src k).drop (runL digitN (rst src k))) := by
   rw [rst_drop, ← byteN_hd, Int.natCast_add]
  have h2 : k + runL digitN (rst src k) < src.size ↔ runL digitN (rst src k) < (rst src k).length := by rw [rst_len]; omega
  rw [h0, h1]
  simp only [h2, numOf, bts_list]
 split
 ·unfold textS
  rw [textGo_rst (src.size + 1) (k + 1) [] (by omega) (by omega)]
  congr 1
  rw [← rst_drop, List.drop_one]
 have he : bts (markL (rst src k)) = (⟨#[]⟩ : ByteArray) ↔ markL (rst src k) = [] := ⟨fun h => bts_inj (b := []) h, fun h => by rw [h]; rfl⟩
 simp only [he, bts_size]

inductive Scans : List UInt8 → Nat → List Tok → Out → Prop
 | done (k : Nat) (l : List Tok) : Scans [] k l ⟨.ok, k, lineL k l ++ [⟨6, (⟨#[]⟩ : ByteArray), 0, k⟩]⟩
 | fail {r : List UInt8} {k : Nat} {l : List Tok} : r ≠ [] → (nextL r k l).err.isOk = false → Scans r k l (nextL r k l)
 | step {r : List UInt8} {k : Nat} {l : List Tok} {o : Out} (n : Nat) (l' : List Tok) : 0 < n → n ≤ r.length → nextL r k l = ⟨.ok, k + n, l'⟩ → Scans (r.drop n) (k + n) l' o → Scans r k l o

theorem Scans.allGo {src : ByteArray} {r : List UInt8} {k : Nat} {l : List Tok} {o : Out} (h : Scans r k l o) : ∀ m, k ≤ src.size → src.size < k + m → rst src k = r → allGo src m k l = o := by
 induction h with
 | done k l =>
  intro m h1 h2 hr
  have := rst_len src k
  rw [hr] at this
  obtain ⟨m, rfl⟩ : ∃ j, m = j + 1 := ⟨m - 1, by omega⟩
  unfold ZL.allGo
  rw [if_pos (by simp at this; omega)]
 | @fail r k l hne he =>
  intro m h1 h2 hr
  have := rst_len src k
  rw [hr] at this
  have : 0 < r.length := List.length_pos_iff.2 hne
  obtain ⟨m, rfl⟩ : ∃ j, m = j + 1 := ⟨m - 1, by omega⟩
  unfold ZL.allGo
  rw [if_neg (by omega), nextS_rst (by omega), hr, he]; rfl
 | @step r k l o n l' h0 hn he hs ih =>
  intro m h1 h2 hr
  have := rst_len src k
  rw [hr] at this
  obtain ⟨m, rfl⟩ : ∃ j, m = j + 1 := ⟨m - 1, by omega⟩
  unfold ZL.allGo
  rw [if_neg (by omega), nextS_rst (by omega), hr, he]
  simp only [SErr.isOk, if_true]
  exact ih m (by omega) (by omega) (by rw [← rst_drop, hr])

theorem Scans.allS {src : ByteArray} {o : Out} (h : Scans src.data.toList 0 [] o) : allS src = o := by
 unfold ZL.allS
 exact h.allGo _ (by omega) (by omega) (by unfold rst; rw [List.drop_zero])

theorem nextL_ok {r : List UInt8} {k : Nat} {l : List Tok} (hr : r ≠ []) (h : (nextL r k l).err.isOk = true) : ∃ n l', 0 < n ∧ n ≤ r.length ∧ nextL r k l = ⟨.ok, k + n, l'⟩ ∧ l'.length ≤ l.length + 1 := by
 -- by way of a source whose rest it is
 let src : ByteArray := bts (List.replicate k 0 ++ r)
 have hrst : rst src k = r := by
  show ((bts (List.replicate k 0 ++ r)).data.toList).drop k = r
  rw [bts_list, List.drop_left' (by simp)]
 have hz : src.size = k + r.length := by
  show (bts (List.replicate k 0 ++ r)).size = _
  rw [bts_size]; simp
 have hlen : 0 < r.length := List.length_pos_iff.2 hr
 have he : nextS src k l = nextL r k l := by rw [nextS_rst (by omega), hrst]
 rw [← he] at h ⊢
 have hx := nextS_ok (by omega) h
 refine ⟨(nextS src k l).pos - k, (nextS src k l).list, by omega, by omega, ?_, hx.2.2⟩
 rw [show k + ((nextS src k l).pos - k) = (nextS src k l).pos by omega]
 have := val_ok h
 generalize nextS src k l = x at *
 cases x; simp only at this; rw [this]

theorem Scans.total : ∀ (m : Nat) (r : List UInt8) (k : Nat) (l : List Tok), r.length ≤ m → ∃ o, Scans r k l o
 | m, [], k, l, _ => ⟨_, .done k l⟩
 | 0, a :: r, k, l, h => by simp at h
 | m + 1, a :: r, k, l, h => by
  cases he : (nextL (a :: r) k l).err.isOk with
  | false => exact ⟨_, .fail (by simp) he⟩
  | true =>
   obtain ⟨n, l', h0, hn, hx, _⟩ := nextL_ok (by simp) he
   obtain ⟨o, ho⟩ := Scans.total m ((a :: r).drop n) (k + n) l' (by rw [List.length_drop]; omega)
   exact ⟨o, .step n l' h0 hn hx ho⟩

end Go.Proofs.ZL
