/- Facts on the pure scan: marks that stand without blanks. -/
import Derived.Test.YtfooolbjhhfbiaaDoorZNd
open Go Go.Am
namespace Go.Proofs.ZL
set_option maxRecDepth 100000

/-- The law's marks, and those of them that have two bytes. -/
def M26 : List ByteArray := [(⟨#[58, 61]⟩ : ByteArray), (⟨#[61, 61]⟩ : ByteArray), (⟨#[33, 61]⟩ : ByteArray), (⟨#[60, 61]⟩ : ByteArray), (⟨#[62, 61]⟩ : ByteArray), (⟨#[38, 38]⟩ : ByteArray), (⟨#[124, 124]⟩ : ByteArray), (⟨#[60, 45]⟩ : ByteArray), (⟨#[43, 43]⟩ : ByteArray), (⟨#[45, 45]⟩ : ByteArray), (⟨#[43, 61]⟩ : ByteArray), (⟨#[45, 61]⟩ : ByteArray), (⟨#[42, 61]⟩ : ByteArray), (⟨#[44]⟩ : ByteArray), (⟨#[59]⟩ : ByteArray), (⟨#[58]⟩ : ByteArray), (⟨#[46]⟩ : ByteArray), (⟨#[61]⟩ : ByteArray), (⟨#[60]⟩ : ByteArray), (⟨#[62]⟩ : ByteArray), (⟨#[43]⟩ : ByteArray), (⟨#[45]⟩ : ByteArray), (⟨#[42]⟩ : ByteArray), (⟨#[37]⟩ : ByteArray), (⟨#[33]⟩ : ByteArray), (⟨#[38]⟩ : ByteArray)]
def two : List ByteArray := M26.take 13
def ms : List UInt8 := [58, 61, 33, 60, 62, 38, 43, 45, 42, 44, 59, 46, 37]

/-- Of these marks alone: a bar has a second one behind it. -/
def evB : List UInt8 → Bool
  | [] => true
  | [c] => ms.contains c
  | c :: d :: r => if c = 124 then d = 124 && evB r else ms.contains c && evB (d :: r)

theorem evB_app : ∀ (m : Nat) (a b : List UInt8), a.length ≤ m → evB a = true → evB b = true → evB (a ++ b) = true
  | m, [], b, _, _, hb => hb
  | 0, a :: r, _, h, _, _ => by simp at h
  | m + 1, [c], b, _, ha, hb => by
    have h124 : c ≠ 124 := by intro e; subst e; revert ha; decide
    have hc : ms.contains c = true := ha
    cases b with
    | nil => exact ha
    | cons d b =>
      show evB (c :: d :: b) = true
      unfold evB
      rw [if_neg h124, hc, hb]; rfl
  | m + 1, c :: d :: r, b, h, ha, hb => by
    show evB (c :: d :: (r ++ b)) = true
    unfold evB at ha ⊢
    by_cases h1 : c = 124
    · rw [if_pos h1] at ha ⊢
      simp only [Bool.and_eq_true] at ha ⊢
      exact ⟨ha.1, evB_app m r b (by simp at h; omega) ha.2 hb⟩
    · rw [if_neg h1] at ha ⊢
      simp only [Bool.and_eq_true] at ha ⊢
      exact ⟨ha.1, evB_app m (d :: r) b (by simp at h ⊢; omega) ha.2 hb⟩

theorem M26_ev : ∀ x ∈ M26, evB x.data.toList = true ∧ x.size ≤ 2 := by
  have h : M26.all (fun x => evB x.data.toList && decide (x.size ≤ 2)) = true := by decide +kernel
  intro x hx
  have := List.all_eq_true.1 h x hx
  simpa using this

def n2 (r : List UInt8) : Nat := if inS two (bts (r.take 2)) = true then 2 else 1

theorem n2_two {r : List UInt8} (h : inS two (bts (r.take 2)) = true) : 2 ≤ r.length := by
  have h2 : two.all (fun x => decide (x.size = 2)) = true := by decide +kernel
  have h3 := List.all_eq_true.1 h2 _ (inS_iff.1 h)
  rw [decide_eq_true_eq, bts_size, List.length_take] at h3
  omega

theorem marks_two {r : List UInt8} (h : 2 ≤ r.length) : inS marks (bts (r.take 2)) = inS two (bts (r.take 2)) := by
  match r, h with
  | c :: d :: r, _ =>
    rw [show (c :: d :: r).take 2 = [c, d] by simp]
    rw [Bool.eq_iff_iff, inS_marks, inS_iff]
    unfold two M26
    constructor
    · intro h
      simp [marksL, marks] at h
      simp only [List.take_succ_cons, List.take_zero, List.mem_cons, List.not_mem_nil, or_false]
      rcases h with h | h | h | h | h | h | h | h | h | h | h | h | h <;> (obtain ⟨rfl, rfl⟩ := h; simp [bts])
    · intro h
      simp only [List.take_succ_cons, List.take_zero, List.mem_cons, List.not_mem_nil, or_false] at h
      rcases h with h | h | h | h | h | h | h | h | h | h | h | h | h <;> (have e := congrArg (fun x => x.data.toList) h; simp only [bts_list] at e; rw [e]; simp [marksL, marks])

theorem ev_hd {c : UInt8} {r : List UInt8} (h : evB (c :: r) = true) : (c = 124 ∧ ∃ r', r = 124 :: r' ∧ evB r' = true) ∨ (c ∈ ms ∧ evB r = true) := by
  cases r with
  | nil => exact .inr ⟨by simpa [evB] using h, rfl⟩
  | cons d r =>
    unfold evB at h
    by_cases h1 : c = 124
    · rw [if_pos h1] at h
      simp only [Bool.and_eq_true, decide_eq_true_eq] at h
      exact .inl ⟨h1, r, by rw [h.1], h.2⟩
    · rw [if_neg h1] at h
      simp only [Bool.and_eq_true] at h
      exact .inr ⟨by simpa using h.1, h.2⟩

theorem ms_one {c : UInt8} (h : c ∈ ms) : inS marks (bts [c]) = true ∧ ∃ v : Int, (c.toNat : Int) = v ∧ (v = 58 ∨ v = 61 ∨ v = 33 ∨ v = 60 ∨ v = 62 ∨ v = 38 ∨ v = 43 ∨ v = 45 ∨ v = 42 ∨ v = 44 ∨ v = 59 ∨ v = 46 ∨ v = 37) := by
  simp only [ms, List.mem_cons, List.not_mem_nil, or_false] at h
  rcases h with rfl | rfl | rfl | rfl | rfl | rfl | rfl | rfl | rfl | rfl | rfl | rfl | rfl <;> exact ⟨by decide +kernel, _, rfl, by decide⟩

theorem ev_step {r : List UInt8} (hr : r ≠ []) (h : evB r = true) : markL r = r.take (n2 r) ∧ n2 r ≤ r.length ∧ evB (r.drop (n2 r)) = true := by
  match r, hr with
  | [c], _ =>
    have hc : c ∈ ms := by simpa [evB] using h
    have hn : n2 [c] = 1 := by
      unfold n2
      rw [if_neg]
      intro h2
      have := n2_two h2
      simp at this
    rw [hn]
    refine ⟨?_, by simp, rfl⟩
    unfold markL
    rw [if_neg (by simp), if_pos ⟨by simp, (ms_one hc).1⟩]
  | c :: d :: r, _ =>
    have hm : markL (c :: d :: r) = (c :: d :: r).take (n2 (c :: d :: r)) := by
      unfold markL n2
      rw [marks_two (by simp)]
      by_cases h2 : inS two (bts ((c :: d :: r).take 2)) = true
      · rw [if_pos ⟨by simp, h2⟩, if_pos h2]
      · rw [if_neg (by intro h; exact h2 h.2), if_neg h2]
        rcases ev_hd h with ⟨rfl, r', e, _⟩ | ⟨hc, _⟩
        · cases e
          exfalso; apply h2
          rw [show (124 :: 124 :: r).take 2 = [124, 124] by simp]
          decide +kernel
        · rw [if_pos ⟨by simp, (ms_one hc).1⟩]
    refine ⟨hm, ?_, ?_⟩
    · unfold n2; split <;> simp
    · unfold n2
      rcases ev_hd h with ⟨rfl, r', e, he⟩ | ⟨hc, he⟩
      · cases e
        rw [if_pos (by rw [show (124 :: 124 :: r).take 2 = [124, 124] by simp]; decide +kernel)]
        exact he
      · split
        · rename_i h2
          -- the second byte of such a mark is no bar
          rcases ev_hd he with ⟨rfl, r', e, he'⟩ | ⟨hd, he'⟩
          · exfalso
            rw [show (c :: 124 :: r).take 2 = [c, 124] by simp] at h2
            have := inS_iff.1 h2
            unfold two M26 at this
            simp only [List.take_succ_cons, List.take_zero, List.mem_cons, List.not_mem_nil, or_false] at this
            have hc124 : c ≠ 124 := by intro e; subst e; revert hc; decide
            rcases this with h | h | h | h | h | h | h | h | h | h | h | h | h <;> (have e := congrArg (fun x => x.data.toList) h; simp only [bts_list] at e; simp at e; try exact hc124 e)
          · exact he'
        · exact he

theorem ev_next {r : List UInt8} (hr : r ≠ []) (h : evB r = true) (k : Nat) (l : List Tok) : nextL r k l = ⟨.ok, k + n2 r, l ++ [⟨5, bts (r.take (n2 r)), 0, k⟩]⟩ := by
  obtain ⟨h1, h2, _⟩ := ev_step hr h
  have hn : 1 ≤ n2 r := by unfold n2; split <;> omega
  have hv : ∃ v : Int, hd r = v ∧ (v = 124 ∨ v = 58 ∨ v = 61 ∨ v = 33 ∨ v = 60 ∨ v = 62 ∨ v = 38 ∨ v = 43 ∨ v = 45 ∨ v = 42 ∨ v = 44 ∨ v = 59 ∨ v = 46 ∨ v = 37) := by
    cases r with
    | nil => exact (hr rfl).elim
    | cons c r =>
      rcases ev_hd h with ⟨rfl, _⟩ | ⟨hc, _⟩
      · exact ⟨124, rfl, .inl rfl⟩
      · obtain ⟨_, v, e, hv⟩ := ms_one hc
        exact ⟨v, e, .inr hv⟩
  obtain ⟨v, e, hv⟩ := hv
  have hl : (r.take (n2 r)).length = n2 r := by rw [List.length_take]; omega
  have := nextL_mark (r := r) (m := r.take (n2 r)) (by rw [e]; omega) (noslash (by rw [e]; omega)) (by rw [e]; unfold letterN; rw [decide_eq_false_iff_not]; omega) (by rw [e]; unfold digitN; rw [decide_eq_false_iff_not]; omega) h1
    (by intro e; rw [e] at hl; simp at hl; omega) k l
  rw [hl] at this
  exact this

inductive Mt : List UInt8 → Nat → List Tok → Prop
  | nil (k : Nat) : Mt [] k []
  | cons {r : List UInt8} {k : Nat} {ts : List Tok} : r ≠ [] → n2 r ≤ r.length → Mt (r.drop (n2 r)) (k + n2 r) ts → Mt r k (⟨5, bts (r.take (n2 r)), 0, k⟩ :: ts)

theorem ev_scans : ∀ (m : Nat) (r : List UInt8) (k : Nat), r.length ≤ m → evB r = true → ∃ ts, Mt r k ts ∧ (∀ t ∈ ts, inS opensB t.text = false ∧ inS closesB t.text = false) ∧
    ∀ l, Scans r k l ⟨.ok, k + r.length, lineL (k + r.length) (l ++ ts) ++ [⟨6, (⟨#[]⟩ : ByteArray), 0, (k + r.length : Nat)⟩]⟩
  | m, [], k, _, _ => ⟨[], .nil k, by simp, fun l => by simpa using Scans.done k l⟩
  | 0, a :: r, _, h, _ => by simp at h
  | m + 1, a :: r, k, h, he => by
    obtain ⟨_, h2, h3⟩ := ev_step (r := a :: r) (by simp) he
    have hn : 1 ≤ n2 (a :: r) := by unfold n2; split <;> omega
    obtain ⟨ts, hm, hb, hs⟩ := ev_scans m ((a :: r).drop (n2 (a :: r))) (k + n2 (a :: r)) (by rw [List.length_drop]; simp at h ⊢; omega) h3
    refine ⟨_, .cons (by simp) h2 hm, ?_, fun l => ?_⟩
    · intro t ht
      rcases List.mem_cons.1 ht with rfl | ht
      · have hx : ∀ b : ByteArray, b ∈ opensB ∨ b ∈ closesB → bts ((a :: r).take (n2 (a :: r))) ≠ b := by
          intro b hb e
          have e2 : hd b.data.toList = (a.toNat : Int) := by
            rw [← e, bts_list]
            obtain ⟨j, hj⟩ : ∃ j, n2 (a :: r) = j + 1 := ⟨n2 (a :: r) - 1, by omega⟩
            rw [hj]; rfl
          have hav : (a.toNat : Int) = 124 ∨ ∃ v : Int, (a.toNat : Int) = v ∧ (v = 58 ∨ v = 61 ∨ v = 33 ∨ v = 60 ∨ v = 62 ∨ v = 38 ∨ v = 43 ∨ v = 45 ∨ v = 42 ∨ v = 44 ∨ v = 59 ∨ v = 46 ∨ v = 37) := by
            rcases ev_hd he with ⟨rfl, _⟩ | ⟨hc, _⟩
            · exact .inl rfl
            · exact .inr (ms_one hc).2
          have hbv : hd b.data.toList = 40 ∨ hd b.data.toList = 91 ∨ hd b.data.toList = 123 ∨ hd b.data.toList = 41 ∨ hd b.data.toList = 93 ∨ hd b.data.toList = 125 := by
            simp only [opensB, closesB, List.mem_cons, List.not_mem_nil, or_false] at hb
            rcases hb with (rfl | rfl | rfl) | (rfl | rfl | rfl) <;> decide
          rcases hav with hav | ⟨v, hv, hav⟩ <;> omega
        constructor
        · rw [← Bool.not_eq_true, inS_iff]; intro hm; exact hx _ (.inl hm) rfl
        · rw [← Bool.not_eq_true, inS_iff]; intro hm; exact hx _ (.inr hm) rfl
      · exact hb t ht
    · have e : k + n2 (a :: r) + ((a :: r).drop (n2 (a :: r))).length = k + (a :: r).length := by rw [List.length_drop]; omega
      have hs' := hs (l ++ [⟨5, bts ((a :: r).take (n2 (a :: r))), 0, k⟩])
      rw [e, List.append_assoc] at hs'
      exact .step (n2 (a :: r)) _ (by omega) h2 (ev_next (by simp) he k l) hs'

theorem deep_none {X : List Tok} : ∀ (ts : List Tok) (n : Int), (∀ t ∈ ts, inS opensB t.text = false ∧ inS closesB t.text = false) → deepGo (ts ++ X) n = deepGo X n
  | [], n, _ => rfl
  | t :: ts, n, h => by
    have ht := h t (List.mem_cons_self ..)
    have ih := deep_none (X := X) ts n (fun u hu => h u (List.mem_cons_of_mem _ hu))
    simp only [List.cons_append, deepGo, ht.1, ht.2, Bool.false_eq_true, if_false, ih, ite_self]

theorem scan_marks {u : List UInt8} (hz : u.length ≤ 8192) (he : evB u = true) : ∃ ts X, Mt u 0 ts ∧ scanS (bts u) = ⟨ts ++ X, 0, 0⟩ ∧ (∀ x ∈ X, x.kind = 6 ∨ x.num = 1) := by
  obtain ⟨ts, hm, hb, hs⟩ := ev_scans _ u 0 (Nat.le_refl _) he
  have hx := scanS_of (src := bts u) (by rw [bts_size]; exact hz) (by rw [bts_list]; exact hs [])
  simp only [SErr.isOk, if_true, Nat.zero_add, List.nil_append] at hx
  have hX : ∃ X, lineL u.length ts ++ [⟨6, (⟨#[]⟩ : ByteArray), 0, (u.length : Nat)⟩] = ts ++ X ∧ (∀ n, deepGo X n = none) ∧ ∀ x ∈ X, x.kind = 6 ∨ x.num = 1 := by
    unfold lineL
    split
    · exact ⟨_, by rw [List.append_assoc], fun n => by simp only [List.singleton_append, deepGo]; rw [if_neg (by decide), if_neg (by decide +kernel), if_neg (by decide +kernel), if_pos (by decide)], by simp⟩
    · exact ⟨_, rfl, fun n => by simp only [deepGo]; rw [if_pos (by decide)], by simp⟩
  obtain ⟨X, hXe, hXd, hXk⟩ := hX
  rw [hXe, deep_none ts 0 hb, hXd] at hx
  exact ⟨ts, X, hm, hx, hXk⟩

end Go.Proofs.ZL
