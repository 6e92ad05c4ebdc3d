/- The scan's steps, made quick for the kernel. -/
import Derived.Test.YtoifleamknbeaaaGreatDoorYPX
import Derived.Test.YtoifleamknbeaaaGreatDoorYNa
open Go Go.Am
namespace Go.Proofs.ZL
set_option maxRecDepth 100000
set_option linter.unusedSimpArgs false
set_option linter.unusedVariables false

/-- A list, its spine and its members laid open by 'g'. -/
def openL {α β γ : Type} (g : α → (α → β) → β) : List α → (List α → β) → β
  | [], f => f []
  | a :: l, f => g a fun a' => openL (γ := γ) g l fun l' => f (a' :: l')
theorem openL_eq {α β γ : Type} {g : α → (α → β) → β} (hg : ∀ a f, g a f = f a) : ∀ (l : List α) (f : List α → β), openL (γ := γ) g l f = f l
  | [], f => rfl
  | a :: l, f => by simp only [openL, hg, openL_eq hg l]

def openN {β : Type} (n : Nat) (f : Nat → β) : β := match n with
  | 0 => f 0
  | m + 1 => f (Nat.succ m)
theorem openN_eq {β : Type} (n : Nat) (f : Nat → β) : openN n f = f n := by cases n <;> rfl
def openU {β : Type} (b : UInt8) (f : UInt8 → β) : β := f b
def openB {β : Type} (s : ByteArray) (f : ByteArray → β) : β := openL (γ := Unit) openU s.data.toList fun l => f ⟨l.toArray⟩
theorem openB_eq {β : Type} (s : ByteArray) (f : ByteArray → β) : openB s f = f s := by
  unfold openB
  exact openL_eq (g := openU) (fun _ _ => rfl) _ _
def openI {β : Type} (i : Int) (f : Int → β) : β := match i with
  | .ofNat n => openN n fun n => f (.ofNat n)
  | .negSucc n => openN n fun n => f (.negSucc n)
theorem openI_eq {β : Type} (i : Int) (f : Int → β) : openI i f = f i := by
  cases i with
  | ofNat n => exact openN_eq n fun n => f (.ofNat n)
  | negSucc n => exact openN_eq n fun n => f (.negSucc n)
def openT {β : Type} (t : Tok) (f : Tok → β) : β := openI t.kind fun k => openB t.text fun x => openI t.num fun m => openI t.pos fun p => f ⟨k, x, m, p⟩
theorem openT_eq {β : Type} (t : Tok) (f : Tok → β) : openT t f = f t := by
  unfold openT; simp only [openI_eq, openB_eq]
def dropK {α β : Type} : Nat → List α → (List α → β) → β
  | 0, r, f => f r
  | _ + 1, [], f => f []
  | n + 1, _ :: r, f => dropK n r f
theorem dropK_eq {α β : Type} : ∀ (n : Nat) (r : List α) (f : List α → β), dropK n r f = f (r.drop n)
  | 0, r, f => rfl
  | n + 1, [], f => by simp [dropK]
  | n + 1, a :: r, f => by simp [dropK, dropK_eq n r f]

/-- A text as a number. -/
def codeN : List Nat → Nat → Nat
  | [], a => a
  | n :: l, a => codeN l (a * 257 + (n + 1))
theorem codeN_pos : ∀ (l : List Nat) (a : Nat), a ≤ codeN l a
  | [], a => Nat.le_refl _
  | n :: l, a => Nat.le_trans (by omega) (codeN_pos l (a * 257 + (n + 1)))
theorem codeN_inj : ∀ (l l' : List Nat) (a a' : Nat), (∀ x ∈ l, x < 256) → (∀ x ∈ l', x < 256) → l.length = l'.length → codeN l a = codeN l' a' → l = l' ∧ a = a'
  | [], [], a, a', _, _, _, h => ⟨rfl, h⟩
  | [], _ :: _, _, _, _, _, h, _ => by cases h
  | _ :: _, [], _, _, _, _, h, _ => by cases h
  | n :: l, n' :: l', a, a', hl, hl', hlen, h => by
    have := codeN_inj l l' _ _ (fun x hx => hl x (List.mem_cons_of_mem _ hx)) (fun x hx => hl' x (List.mem_cons_of_mem _ hx)) (by simpa using hlen) h
    obtain ⟨rfl, h2⟩ := this
    have h3 := hl n (List.mem_cons_self ..)
    have h4 := hl' n' (List.mem_cons_self ..)
    obtain ⟨rfl, rfl⟩ : n = n' ∧ a = a' := by omega
    exact ⟨rfl, rfl⟩
def codeB (s : ByteArray) : Nat × Nat := ((s.data.toList.map UInt8.toNat).length, codeN (s.data.toList.map UInt8.toNat) 0)
def inC (cs : List (Nat × Nat)) (n c : Nat) : Bool := cs.any fun x => Nat.beq x.1 n && Nat.beq x.2 c
theorem inC_eq (ws : List ByteArray) (x : List UInt8) : inS ws (bts x) = inC (ws.map codeB) (x.map UInt8.toNat).length (codeN (x.map UInt8.toNat) 0) := by
  unfold inS inC
  rw [List.any_map]
  congr 1
  funext w
  have key : bts x = w ↔ codeB w = ((x.map UInt8.toNat).length, codeN (x.map UInt8.toNat) 0) := by
    constructor
    · rintro rfl
      unfold codeB; rw [bts_list]
    · intro h
      unfold codeB at h
      simp only [Prod.mk.injEq] at h
      have hb : ∀ (l : List UInt8), ∀ y ∈ l.map UInt8.toNat, y < 256 := fun l y hy => by
        obtain ⟨b, _, rfl⟩ := List.mem_map.1 hy
        exact b.toNat_lt
      have h2 := (codeN_inj _ _ 0 0 (hb _) (hb _) h.1 h.2).1
      have h3 : w.data.toList = x := by
        have hinj : Function.Injective UInt8.toNat := fun a b h => UInt8.toNat_inj.1 h
        exact List.map_inj_right (fun a b => hinj (a₁ := a) (a₂ := b)) |>.1 h2
      rw [← h3, of_list]
  by_cases h : bts x = w
  · rw [decide_eq_true h]
    have := key.1 h
    simp only [Function.comp, this]
    simp
  · rw [decide_eq_false h]
    have h2 : ¬codeB w = _ := fun h2 => h (key.2 h2)
    simp only [Function.comp]
    symm
    rw [Bool.and_eq_false_iff]
    by_cases h3 : (codeB w).1 = (x.map UInt8.toNat).length
    · right
      rw [Bool.eq_false_iff]
      intro h4
      exact h2 (Prod.ext h3 (Nat.eq_of_beq_eq_true h4))
    · left
      rw [Bool.eq_false_iff]
      intro h4
      exact h3 (Nat.eq_of_beq_eq_true h4)

def wordCs : List (Nat × Nat) := [(6, 110368063569534), (4, 1687911088), (5, 433843410186), (3, 6630199), (4, 1703962016), (4, 1704419742), (5, 438104698139), (8, 7437512236002766957), (7, 29216626363955692), (5, 442347748363), (4, 1738637741), (11, 129951195299298800117750443), (5, 451005190672), (3, 6831946), (4, 1756205488), (2, 26840), (2, 27345), (3, 7029838), (3, 7225666), (4, 1873705890), (3, 7357773), (3, 7358790), (5, 494630024208), (5, 494918263346), (7, 33250528819472125), (6, 129379778533286), (6, 130500796568966), (6, 130566335739549), (6, 130566336529323), (6, 130579271103128), (4, 1993653444), (4, 1994114502), (3, 7885132)]
theorem wordCs_eq : words.map codeB = wordCs := by decide +kernel
def markCs : List (Nat × Nat) := [(2, 15225), (2, 15996), (2, 8800), (2, 15739), (2, 16253), (2, 10062), (2, 32250), (2, 15723), (2, 11352), (2, 11868), (2, 11370), (2, 11884), (2, 11113), (1, 41), (1, 42), (1, 92), (1, 94), (1, 124), (1, 126), (1, 45), (1, 60), (1, 59), (1, 47), (1, 62), (1, 61), (1, 63), (1, 44), (1, 46), (1, 43), (1, 48), (1, 38), (1, 34), (1, 39)]
theorem markCs_eq : marks.map codeB = markCs := by decide +kernel

def letterQ (n : Nat) : Bool := (Nat.ble 97 n && Nat.ble n 122) || ((Nat.ble 65 n && Nat.ble n 90) || Nat.beq n 95)
def digitQ (n : Nat) : Bool := Nat.ble 48 n && Nat.ble n 57
theorem letterQ_eq (n : Nat) : letterN (n : Int) = letterQ n := by
  unfold letterN letterQ
  rw [Bool.eq_iff_iff]
  simp only [decide_eq_true_eq, Bool.or_eq_true, Bool.and_eq_true, Nat.ble_eq, Nat.beq_eq]
  omega
theorem digitQ_eq (n : Nat) : digitN (n : Int) = digitQ n := by
  unfold digitN digitQ
  rw [Bool.eq_iff_iff]
  simp only [decide_eq_true_eq, Bool.and_eq_true, Nat.ble_eq]
  omega
def runQ (p : Nat → Bool) : List Nat → Nat → Nat
  | [], n => n
  | a :: l, n => if p a then runQ p l (Nat.succ n) else n
theorem runQ_eq {p : Nat → Bool} {q : Int → Bool} (hpq : ∀ n : Nat, q n = p n) : ∀ (r : List UInt8) (n : Nat), runQ p (r.map UInt8.toNat) n = n + runL q r
  | [], n => rfl
  | a :: l, n => by
    unfold runL
    rw [List.map_cons, runQ, List.takeWhile_cons]
    have h := hpq a.toNat
    rw [h]
    cases hp : p a.toNat
    · simp
    · have := runQ_eq hpq l (Nat.succ n)
      unfold runL at this
      simp only [if_true, List.length_cons]
      rw [this]; omega

/-- One step of the scan, on bytes and on numbers. -/
def nextK (r : List UInt8) (rn : List Nat) (k : Nat) : Out :=
  match rn with
  | [] => ⟨.stuck k, k, []⟩
  | c :: rn' =>
    if Nat.beq c 32 || Nat.beq c 9 then ⟨.ok, Nat.succ k, []⟩
    else if Nat.beq c 47 && (match rn' with | d :: _ => Nat.beq d 47 | [] => false) then ⟨.ok, k + runQ (fun n => !Nat.beq n 10) rn 0, []⟩
    else if letterQ c then openN (runQ (fun n => letterQ n || digitQ n) rn 0) fun n => (if Nat.ble 25 n then ⟨.long (⟨#[97, 32, 110, 97, 109, 101]⟩ : ByteArray) k, k, []⟩ else ⟨.ok, k + n, [⟨if inC wordCs n (codeN (rn.take n) 0) then 4 else 1, bts (r.take n), 0, k⟩]⟩)
    else if digitQ c then numberL r k []
    else if Nat.beq c 34 then textL k [] r.tail (k + 1) []
    else if (match rn' with | d :: _ => inC markCs 2 (codeN [c, d] 0) | [] => false) then ⟨.ok, k + 2, [⟨5, bts (r.take 2), 0, k⟩]⟩
    else if inC markCs 1 (codeN [c] 0) then ⟨.ok, k + 1, [⟨5, bts (r.take 1), 0, k⟩]⟩
    else ⟨.stuck k, k, []⟩

theorem runL_le (p : Int → Bool) (r : List UInt8) : runL p r ≤ r.length := by
  unfold runL; exact (List.takeWhile_sublist _).length_le

theorem nextK_eq {r : List UInt8} (hr : r ≠ []) (h10 : hd r ≠ 10) (k : Nat) : nextK r (r.map UInt8.toNat) k = nextL r k [] := by
  cases r with
  | nil => exact (hr rfl).elim
  | cons c r =>
    have hhd : hd (c :: r) = (c.toNat : Int) := rfl
    unfold nextL
    rw [if_neg h10, hhd]
    unfold nextK
    rw [List.map_cons]
    simp only [openN_eq]
    by_cases h1 : (c.toNat : Int) = 32 ∨ (c.toNat : Int) = 9
    · rw [if_pos h1, if_pos (by simp only [Bool.or_eq_true, Nat.beq_eq]; omega)]
    rw [if_neg h1, if_neg (by simp only [Bool.or_eq_true, Nat.beq_eq]; omega)]
    have h2 : (Nat.beq c.toNat 47 && (match r.map UInt8.toNat with | d :: _ => Nat.beq d 47 | [] => false)) = decide ((c :: r).take 2 = [47, 47]) := by
      cases r with
      | nil => simp
      | cons d r =>
        rw [Bool.eq_iff_iff]
        simp only [List.map_cons, Bool.and_eq_true, Nat.beq_eq, List.take_succ_cons, List.take_zero, decide_eq_true_eq, List.cons.injEq, and_true]
        have e : ∀ x : UInt8, x.toNat = 47 ↔ x = 47 := fun x => by rw [show (47 : Nat) = (47 : UInt8).toNat from rfl, UInt8.toNat_inj]
        rw [e, e]
    rw [h2]
    by_cases h3 : (c :: r).take 2 = [47, 47]
    · rw [decide_eq_true h3, if_pos rfl, if_pos h3]
      have := runQ_eq (p := fun n => !Nat.beq n 10) (q := noLine) (fun n => by
        unfold noLine
        rw [Bool.eq_iff_iff]
        simp only [decide_eq_true_eq, Bool.not_eq_true', Bool.eq_false_iff, ne_eq, Nat.beq_eq]
        omega) (c :: r) 0
      rw [List.map_cons] at this
      rw [this, Nat.zero_add]
    rw [decide_eq_false h3, if_neg Bool.false_ne_true, if_neg h3, ← letterQ_eq]
    by_cases h4 : letterN (c.toNat : Int) = true
    · rw [if_pos h4, if_pos h4]
      have hrun := runQ_eq (p := fun n => letterQ n || digitQ n) (q := alnumN) (fun n => by unfold alnumN; rw [letterQ_eq, digitQ_eq]) (c :: r) 0
      rw [List.map_cons, Nat.zero_add] at hrun
      rw [hrun]
      unfold nameL
      by_cases h5 : 24 < runL alnumN (c :: r)
      · rw [if_pos h5, if_pos (by rw [Nat.ble_eq]; omega)]
      · rw [if_neg h5, if_neg (by rw [Nat.ble_eq]; omega), inC_eq, wordCs_eq, List.map_take, List.length_take, List.length_map, List.map_cons, Nat.min_eq_left (runL_le _ _), List.nil_append]
    rw [if_neg h4, if_neg h4, ← digitQ_eq]
    by_cases h5 : digitN (c.toNat : Int) = true
    · rw [if_pos h5, if_pos h5]
    rw [if_neg h5, if_neg h5]
    by_cases h6 : (c.toNat : Int) = 34
    · rw [if_pos h6, if_pos (by rw [Nat.beq_eq]; omega)]
    rw [if_neg h6, if_neg (by rw [Nat.beq_eq]; omega)]
    unfold markL
    rw [inC_eq, inC_eq, markCs_eq]
    cases r with
    | nil =>
      simp only [List.map_cons, List.map_nil, List.length_cons, List.length_nil, List.take_succ_cons, List.take_nil, List.take_zero]
      generalize inC markCs 1 (codeN [c.toNat] 0) = b
      cases b <;> simp
    | cons d r =>
      simp only [List.map_cons, List.map_nil, List.length_cons, List.take_succ_cons, List.take_zero, List.length_nil]
      generalize inC markCs 2 (codeN [c.toNat, d.toNat] 0) = b
      generalize inC markCs 1 (codeN [c.toNat] 0) = b2
      cases b <;> cases b2 <;> simp

end Go.Proofs.ZL
