/- ParseStmts: the walk. -/
import Derived.Test.YtoifleamknbeaaaGreatDoorYMSt
open Go Go.Am
namespace Go.Proofs.ZL
set_option maxRecDepth 100000
set_option linter.unusedSimpArgs false
set_option linter.unusedVariables false
set_option maxHeartbeats 1000000

theorem bool_at {l : List Bool} {k : Int} (h : 0 ≤ k ∧ k < l.length) : (l.map Value.bool)[0 + k.toNat * 1]? = some (.bool (l.getD k.toNat false)) := by
  rw [List.getElem?_map, show 0 + k.toNat * 1 = k.toNat by omega, List.getD_eq_getElem?_getD, List.getElem?_eq_getElem (show k.toNat < l.length by omega)]
  rfl

theorem parseStmts_w {e way : Int} {h : Heap} {Q : ARes → Prop} (hq : ∀ h', Q (.ret (.bool true) h')) : WCall Tryz.prog G X 9 [.int .i64 e, .int .i64 way] h Q := by
  refine WCall.walk hX Tryz.func9 rfl rfl Tryz.ntmps9 rfl ?_
  refine WC.seq hX ?_;refine WC.region hX ?_;refine WR.cons ?_;refine WS.assign (hk := ?_);refine WR.nil ?_;refine WC.seq hX ?_;refine WC.seq hX ?_;refine WC.region hX ?_;refine WR.cons ?_
  refine WS.callF (he := en11) (hk := ?_)
  refine anchor_w fun h1 g1 => ?_
  refine WR.cons ?_;refine WS.not (hk := ?_);refine WR.nil ?_
  refine WC.condF hX (hw := ?_)
  refine WC.skip ?_;refine WC.seq hX ?_;refine WC.seq hX ?_;refine WC.region hX ?_;refine WR.cons ?_;refine WS.move (hk := ?_);refine WR.cons ?_;refine WS.ltI (h1 := ?_) (h2 := ?_);intro hh;refine WR.cons ?_;refine WS.move (hk := ?_);refine WR.cons ?_;refine WS.uw (hk := ?_);refine WR.cons ?_;refine WS.uw (hk := ?_);refine WR.cons ?_;refine WS.pickT (hk := ?_);refine WR.cons ?_;refine WS.move (hk := ?_);refine WR.cons ?_;refine WS.uw (hk := ?_);refine WR.cons ?_;refine WS.uw (hk := ?_);refine WR.cons ?_;refine WS.pickT (hk := ?_);refine WR.cons ?_;refine WS.move (hk := ?_);refine WR.cons ?_;refine WS.uw (hk := ?_);refine WR.cons ?_;refine WS.uw (hk := ?_);refine WR.cons ?_;refine WS.pickT (hk := ?_);refine WR.nil ?_;rotate_left;intro hh;refine WR.cons ?_;refine WS.move (hk := ?_);refine WR.cons ?_;refine WS.move (hk := ?_);refine WR.cons ?_;refine WS.gtI (h1 := ?_) (h2 := ?_);intro hh;refine WR.cons ?_;refine WS.pickF (hk := ?_);refine WR.cons ?_;refine WS.move (hk := ?_);refine WR.cons ?_;refine WS.uw (hk := ?_);refine WR.cons ?_;refine WS.uw (hk := ?_);refine WR.cons ?_;refine WS.pickT (hk := ?_);refine WR.cons ?_;refine WS.move (hk := ?_);refine WR.cons ?_;refine WS.uw (hk := ?_);refine WR.cons ?_;refine WS.uw (hk := ?_);refine WR.cons ?_;refine WS.pickT (hk := ?_);refine WR.nil ?_;rotate_left;intro hh;refine WR.cons ?_;refine WS.pickF (hk := ?_);refine WR.cons ?_;refine WS.move (hk := ?_);refine WR.cons ?_;refine WS.move (hk := ?_);refine WR.cons ?_;refine WS.ltI (h1 := ?_) (h2 := ?_);intro hh;refine WR.cons ?_;refine WS.pickF (hk := ?_);refine WR.cons ?_;refine WS.move (hk := ?_);refine WR.cons ?_;refine WS.uw (hk := ?_);refine WR.cons ?_;refine WS.uw (hk := ?_);refine WR.cons ?_;refine WS.pickT (hk := ?_);refine WR.nil ?_;rotate_left;intro hh;refine WR.cons ?_;refine WS.pickF (hk := ?_);refine WR.cons ?_;refine WS.move (hk := ?_);refine WR.cons ?_;refine WS.move (hk := ?_);refine WR.cons ?_;refine WS.gtI (h1 := ?_) (h2 := ?_);intro hh;refine WR.cons ?_;refine WS.pickF (hk := ?_);refine WR.nil ?_;rotate_left;intro hh;refine WR.cons ?_;refine WS.pickF (hk := ?_);refine WR.nil ?_;rotate_left
  · refine WC.condT hX (hw := ?_);refine WC.seq hX ?_;refine WC.region hX ?_;refine WR.cons ?_;refine WS.assign (hk := ?_);refine WR.nil ?_;refine WC.ret ?_
    ((apply Exists.intro; apply And.intro; (· repeat (first | exact resultA_nil | (apply resultA_tmp; (· (first | rfl | assumption))) | (apply resultA_cellG; (· (first | rfl | assumption)); (· rfl); (· exact sz_at rfl); (· (repeat (first | assumption | (with_reducible rfl) | exact obj_new | exact obj_put | (refine obj_old (by (first | omega | (simp only [Heap.alloc_next, Heap.put_next]; omega))) ?_) | (refine obj_else (by (first | omega | (simp only [Heap.alloc_next, Heap.put_next]; omega))) ?_) | (apply Gr.at; (· assumption); (· (first | omega | (simp only [Heap.alloc_next, Heap.put_next]; omega)))) | (apply Fr1.at; (· assumption); (· (first | omega | (simp only [Heap.alloc_next, Heap.put_next]; omega))); (· (first | omega | (simp only [Heap.alloc_next, Heap.put_next]; omega))))))); (· (first | (exact Nat.le_of_ble_eq_true rfl) | (simp; done) | omega)); (· rfl)) | (apply resultA_cellS; (· (first | rfl | assumption)); (· rfl); (· (repeat (first | assumption | (with_reducible rfl) | exact obj_new | exact obj_put | (refine obj_old (by (first | omega | (simp only [Heap.alloc_next, Heap.put_next]; omega))) ?_) | (refine obj_else (by (first | omega | (simp only [Heap.alloc_next, Heap.put_next]; omega))) ?_) | (apply Gr.at; (· assumption); (· (first | omega | (simp only [Heap.alloc_next, Heap.put_next]; omega)))) | (apply Fr1.at; (· assumption); (· (first | omega | (simp only [Heap.alloc_next, Heap.put_next]; omega))); (· (first | omega | (simp only [Heap.alloc_next, Heap.put_next]; omega))))))); (· rfl)))))); exact hq _
  · refine WC.condT hX (hw := ?_);refine WC.seq hX ?_;refine WC.region hX ?_;refine WR.cons ?_;refine WS.assign (hk := ?_);refine WR.nil ?_;refine WC.ret ?_
    ((apply Exists.intro; apply And.intro; (· repeat (first | exact resultA_nil | (apply resultA_tmp; (· (first | rfl | assumption))) | (apply resultA_cellG; (· (first | rfl | assumption)); (· rfl); (· exact sz_at rfl); (· (repeat (first | assumption | (with_reducible rfl) | exact obj_new | exact obj_put | (refine obj_old (by (first | omega | (simp only [Heap.alloc_next, Heap.put_next]; omega))) ?_) | (refine obj_else (by (first | omega | (simp only [Heap.alloc_next, Heap.put_next]; omega))) ?_) | (apply Gr.at; (· assumption); (· (first | omega | (simp only [Heap.alloc_next, Heap.put_next]; omega)))) | (apply Fr1.at; (· assumption); (· (first | omega | (simp only [Heap.alloc_next, Heap.put_next]; omega))); (· (first | omega | (simp only [Heap.alloc_next, Heap.put_next]; omega))))))); (· (first | (exact Nat.le_of_ble_eq_true rfl) | (simp; done) | omega)); (· rfl)) | (apply resultA_cellS; (· (first | rfl | assumption)); (· rfl); (· (repeat (first | assumption | (with_reducible rfl) | exact obj_new | exact obj_put | (refine obj_old (by (first | omega | (simp only [Heap.alloc_next, Heap.put_next]; omega))) ?_) | (refine obj_else (by (first | omega | (simp only [Heap.alloc_next, Heap.put_next]; omega))) ?_) | (apply Gr.at; (· assumption); (· (first | omega | (simp only [Heap.alloc_next, Heap.put_next]; omega)))) | (apply Fr1.at; (· assumption); (· (first | omega | (simp only [Heap.alloc_next, Heap.put_next]; omega))); (· (first | omega | (simp only [Heap.alloc_next, Heap.put_next]; omega))))))); (· rfl)))))); exact hq _
  · refine WC.condT hX (hw := ?_);refine WC.seq hX ?_;refine WC.region hX ?_;refine WR.cons ?_;refine WS.assign (hk := ?_);refine WR.nil ?_;refine WC.ret ?_
    ((apply Exists.intro; apply And.intro; (· repeat (first | exact resultA_nil | (apply resultA_tmp; (· (first | rfl | assumption))) | (apply resultA_cellG; (· (first | rfl | assumption)); (· rfl); (· exact sz_at rfl); (· (repeat (first | assumption | (with_reducible rfl) | exact obj_new | exact obj_put | (refine obj_old (by (first | omega | (simp only [Heap.alloc_next, Heap.put_next]; omega))) ?_) | (refine obj_else (by (first | omega | (simp only [Heap.alloc_next, Heap.put_next]; omega))) ?_) | (apply Gr.at; (· assumption); (· (first | omega | (simp only [Heap.alloc_next, Heap.put_next]; omega)))) | (apply Fr1.at; (· assumption); (· (first | omega | (simp only [Heap.alloc_next, Heap.put_next]; omega))); (· (first | omega | (simp only [Heap.alloc_next, Heap.put_next]; omega))))))); (· (first | (exact Nat.le_of_ble_eq_true rfl) | (simp; done) | omega)); (· rfl)) | (apply resultA_cellS; (· (first | rfl | assumption)); (· rfl); (· (repeat (first | assumption | (with_reducible rfl) | exact obj_new | exact obj_put | (refine obj_old (by (first | omega | (simp only [Heap.alloc_next, Heap.put_next]; omega))) ?_) | (refine obj_else (by (first | omega | (simp only [Heap.alloc_next, Heap.put_next]; omega))) ?_) | (apply Gr.at; (· assumption); (· (first | omega | (simp only [Heap.alloc_next, Heap.put_next]; omega)))) | (apply Fr1.at; (· assumption); (· (first | omega | (simp only [Heap.alloc_next, Heap.put_next]; omega))); (· (first | omega | (simp only [Heap.alloc_next, Heap.put_next]; omega))))))); (· rfl)))))); exact hq _
  · refine WC.condT hX (hw := ?_);refine WC.seq hX ?_;refine WC.region hX ?_;refine WR.cons ?_;refine WS.assign (hk := ?_);refine WR.nil ?_;refine WC.ret ?_
    ((apply Exists.intro; apply And.intro; (· repeat (first | exact resultA_nil | (apply resultA_tmp; (· (first | rfl | assumption))) | (apply resultA_cellG; (· (first | rfl | assumption)); (· rfl); (· exact sz_at rfl); (· (repeat (first | assumption | (with_reducible rfl) | exact obj_new | exact obj_put | (refine obj_old (by (first | omega | (simp only [Heap.alloc_next, Heap.put_next]; omega))) ?_) | (refine obj_else (by (first | omega | (simp only [Heap.alloc_next, Heap.put_next]; omega))) ?_) | (apply Gr.at; (· assumption); (· (first | omega | (simp only [Heap.alloc_next, Heap.put_next]; omega)))) | (apply Fr1.at; (· assumption); (· (first | omega | (simp only [Heap.alloc_next, Heap.put_next]; omega))); (· (first | omega | (simp only [Heap.alloc_next, Heap.put_next]; omega))))))); (· (first | (exact Nat.le_of_ble_eq_true rfl) | (simp; done) | omega)); (· rfl)) | (apply resultA_cellS; (· (first | rfl | assumption)); (· rfl); (· (repeat (first | assumption | (with_reducible rfl) | exact obj_new | exact obj_put | (refine obj_old (by (first | omega | (simp only [Heap.alloc_next, Heap.put_next]; omega))) ?_) | (refine obj_else (by (first | omega | (simp only [Heap.alloc_next, Heap.put_next]; omega))) ?_) | (apply Gr.at; (· assumption); (· (first | omega | (simp only [Heap.alloc_next, Heap.put_next]; omega)))) | (apply Fr1.at; (· assumption); (· (first | omega | (simp only [Heap.alloc_next, Heap.put_next]; omega))); (· (first | omega | (simp only [Heap.alloc_next, Heap.put_next]; omega))))))); (· rfl)))))); exact hq _
  refine WC.condF hX (hw := ?_)
  refine WC.skip ?_;refine WC.seq hX ?_
  refine WC.region hX ?_
  refine WR.cons ?_;refine WS.buildSlice (hk := ?_);refine WR.cons ?_;refine WS.assign (hk := ?_);refine WR.nil ?_;refine WC.seq hX ?_
  have hx := list_at (l := wayL) (k := way) (by simp [wayL]; omega)
  have hy := list_at (l := expL) (k := e) (by simp [expL]; omega)
  have hz := getD_size (l := wayL) (n := 100) (by decide) way.toNat
  have hw := getD_size (l := expL) (n := 100) (by decide) e.toNat
  have htab : stmtsB e.toNat way.toNat = true := List.all_eq_true.1 (List.all_eq_true.1 stmts_tab e.toNat (List.mem_range.2 (by omega))) way.toNat (List.mem_range.2 (by omega))
  unfold stmtsB at htab
  rw [Bool.and_eq_true, Bool.and_eq_true] at htab
  obtain ⟨⟨ht1, ht2⟩, ht3⟩ := htab
  have hb := bool_at (l := [callB e.toNat, targetB e.toNat, targetB e.toNat, callB e.toNat, callB e.toNat, targetB e.toNat]) (k := way) (by simp; omega)
  rw [show [callB e.toNat, targetB e.toNat, targetB e.toNat, callB e.toNat, callB e.toNat, targetB e.toNat].getD way.toNat false = mustB e.toNat way.toNat from rfl] at hb
  generalize mustB e.toNat way.toNat = M at *
  generalize wayL.getD way.toNat .empty = H at *
  generalize expL.getD e.toNat .empty = E at *
  generalize hh2 : h1.alloc _ = h2
  have ho5 : h2.obj h1.next = some (.cells false (expL.map Value.string)) := by rw [← hh2]; exact obj_new
  have hn2 : h2.next = h1.next + 1 := by rw [← hh2]; rfl
  refine WC.cut (N' := fun v h' => h' = h2 ∧ v 0 = some (.int .i64 e) ∧ v 1 = some (.int .i64 way) ∧ v 5 = some (.slice (some ⟨h1.next, 0, none⟩) 11 1) ∧ v 6 = some (.bool (targetB e.toNat))) ?_ ?_
  · refine WC.region hX ?_;refine WR.cons ?_;refine WS.move (hk := ?_);refine WR.cons ?_;refine WS.leI (h1 := ?_) (h2 := ?_);intro hh;refine WR.cons ?_;refine WS.assign (hk := ?_);refine WR.nil ?_;rotate_left;intro hh;refine WR.cons ?_;refine WS.assign (hk := ?_);refine WR.nil ?_;rotate_left
    · exact ⟨rfl, rfl, rfl, rfl, by simp [upd, targetB]; omega⟩
    · exact ⟨rfl, rfl, rfl, rfl, by simp [upd, targetB]; omega⟩
  rintro v h' ⟨rfl, e0, e1, e5, e6⟩
  refine WC.seq hX ?_
  refine WC.cut (N' := fun v g => g = h' ∧ v 0 = some (.int .i64 e) ∧ v 1 = some (.int .i64 way) ∧ v 5 = some (.slice (some ⟨h1.next, 0, none⟩) 11 1) ∧ v 6 = some (.bool (targetB e.toNat)) ∧ v 7 = some (.bool (callB e.toNat))) ?_ ?_
  · refine WC.region hX ?_;refine WR.cons ?_;refine WS.move (hk := ?_);refine WR.cons ?_;refine WS.eqI (h1 := ?_) (h2 := ?_);intro hh;refine WR.cons ?_;refine WS.move (hk := ?_);refine WR.cons ?_;refine WS.uw (hk := ?_);refine WR.cons ?_;refine WS.uw (hk := ?_);refine WR.cons ?_;refine WS.pickT (hk := ?_);refine WR.cons ?_;refine WS.move (hk := ?_);refine WR.cons ?_;refine WS.uw (hk := ?_);refine WR.cons ?_;refine WS.uw (hk := ?_);refine WR.cons ?_;refine WS.pickT (hk := ?_);refine WR.cons ?_;refine WS.assign (hk := ?_);refine WR.nil ?_;rotate_left;intro hh;refine WR.cons ?_;refine WS.move (hk := ?_);refine WR.cons ?_;refine WS.move (hk := ?_);refine WR.cons ?_;refine WS.eqI (h1 := ?_) (h2 := ?_);intro hh;refine WR.cons ?_;refine WS.pickF (hk := ?_);refine WR.cons ?_;refine WS.move (hk := ?_);refine WR.cons ?_;refine WS.uw (hk := ?_);refine WR.cons ?_;refine WS.uw (hk := ?_);refine WR.cons ?_;refine WS.pickT (hk := ?_);refine WR.cons ?_;refine WS.assign (hk := ?_);refine WR.nil ?_;rotate_left;intro hh;refine WR.cons ?_;refine WS.pickF (hk := ?_);refine WR.cons ?_;refine WS.move (hk := ?_);refine WR.cons ?_;refine WS.move (hk := ?_);refine WR.cons ?_;refine WS.eqI (h1 := ?_) (h2 := ?_);intro hh;refine WR.cons ?_;refine WS.pickF (hk := ?_);refine WR.cons ?_;refine WS.assign (hk := ?_);refine WR.nil ?_;rotate_left;intro hh;refine WR.cons ?_;refine WS.pickF (hk := ?_);refine WR.cons ?_;refine WS.assign (hk := ?_);refine WR.nil ?_;rotate_left
    all_goals exact ⟨rfl, e0, e1, e5, e6, by simp [upd, callB]; omega⟩
  clear e0 e1 e5 e6
  rintro v g ⟨rfl, e0, e1, e5, e6, e7⟩
  refine WC.seq hX ?_;refine WC.region hX ?_;refine WR.cons ?_;refine WS.buildSlice (hk := ?_);refine WR.cons ?_;refine WS.assign (hk := ?_);refine WR.nil ?_;refine WC.seq hX ?_;refine WC.region hX ?_;refine WR.cons ?_;refine WS.move (hk := ?_);refine WR.cons ?_;refine WS.move (hk := ?_);refine WR.cons ?_;refine WS.move (hk := ?_);refine WR.cons ?_;refine WS.move (hk := ?_);refine WR.cons ?_;refine WS.move (hk := ?_);refine WR.cons ?_;refine WS.move (hk := ?_);refine WR.cons ?_;refine WS.buildSlice (hk := ?_);refine WR.cons ?_;refine WS.move (hk := ?_);refine WR.cons ?_;refine WS.indexAddr (hk := ?_);refine WR.cons ?_
  refine WS.loadS (v := .bool M) (hc := hb) (hk := ?_)
  refine WR.cons ?_;refine WS.assign (hk := ?_);refine WR.nil ?_;refine WC.seq hX ?_;refine WC.region hX ?_;refine WR.cons ?_;refine WS.assign (hk := ?_);refine WR.nil ?_;refine WC.seq hX ?_;refine WC.seq hX ?_;refine WC.region hX ?_;refine WR.cons ?_;refine WS.move (hk := ?_);refine WR.cons ?_;refine WS.move (hk := ?_);refine WR.cons ?_;refine WS.indexAddr (hk := ?_);refine WR.cons ?_
  refine WS.loadS (v := .string H) (hc := hx) (hk := ?_)
  refine WR.cons ?_;refine WS.lenS (hk := ?_);refine WR.cons ?_;refine WS.move (hk := ?_);refine WR.nil ?_;refine WC.block hX ?_
  refine WC.loopInv hX (α := Nat) (m := fun i => H.size - i) (Inv := fun i v h3 => v 0 = some (.int .i64 e) ∧ v 1 = some (.int .i64 way) ∧ v 5 = some (.slice (some ⟨h1.next, 0, none⟩) 11 1) ∧ v 8 = some (.slice (some ⟨g.next, 0, none⟩) 6 1) ∧ v 9 = some (.bool M) ∧ v 10 = some (.string (replS H E i)) ∧ v 56 = some (.int .i64 H.size) ∧ v 57 = some (.int .i64 i) ∧ i ≤ H.size ∧
      g.next < h3.next ∧ h3.obj h1.next = some (.cells false (expL.map Value.string)) ∧ h3.obj g.next = some (.cells false (wayL.map Value.string)))
    0 ⟨e0, e1, e5, rfl, rfl, rfl, rfl, rfl, by omega, Wwne, Wwobj, Wwobj⟩ ?_
  clear e0 e1 e5
  rintro i v h3 ih ⟨e0, e1, e5, e8, e9, e10, e56, e57, hi, hn3, ho3, ho4⟩
  have hs := replS_size H E i
  have hs2 : i * (E.size + 1) ≤ 100 * (E.size + 1) := Nat.mul_le_mul_right _ (by omega)
  have hrep : replS H E (i + 1) = replS H E i ++ (if byteN H (i : Int) = 35 then E else strOf [byteN H (i : Int)]) := rfl
  have l1 : ((⟨#[102, 117, 110, 99, 32, 102, 40, 41, 32, 123, 10]⟩ : ByteArray) : ByteArray).size = 11 := rfl
  have l2 : ((⟨#[10, 125, 10]⟩ : ByteArray) : ByteArray).size = 3 := rfl
  have l3 : ((⟨#[102, 117, 110, 99, 32, 102, 40, 41, 32, 123, 10, 120, 32, 61, 32]⟩ : ByteArray) : ByteArray).size = 15 := rfl
  have l4 : ((⟨#[32, 60, 45, 32, 49, 10, 125, 10]⟩ : ByteArray) : ByteArray).size = 8 := rfl
  refine WC.seq hX ?_;refine WC.region hX ?_;refine WR.cons ?_;refine WS.ltI (h1 := ?_) (h2 := ?_);intro hh;refine WR.nil ?_;refine WC.seq hX ?_;refine WC.condT hX (hw := ?_);refine WC.skip ?_;refine WC.seq hX ?_;refine WC.block hX ?_;refine WC.seq hX ?_;refine WC.region hX ?_;refine WR.cons ?_;refine WS.move (hk := ?_);refine WR.cons ?_;refine WS.assign (hk := ?_);refine WR.nil ?_;refine WC.seq hX ?_;refine WC.region hX ?_;refine WR.cons ?_;refine WS.move (hk := ?_);refine WR.cons ?_;refine WS.move (hk := ?_);refine WR.cons ?_;refine WS.indexAddr (hk := ?_);refine WR.cons ?_;rotate_left;intro hh;refine WR.nil ?_;refine WC.seq hX ?_;refine WC.condF hX (hw := ?_);refine WC.exit ?_;refine exit_here ?_;refine WC.seq hX ?_;refine WC.region hX ?_;refine WR.cons ?_;refine WS.move (hk := ?_);refine WR.cons ?_;refine WS.addS (hk := ?_);refine WR.cons ?_;refine WS.addS (hk := ?_);refine WR.cons ?_;rotate_left
  · refine WS.loadS (v := .string H) (hc := hx) (hk := ?_)
    refine WR.cons ?_;refine WS.move (hk := ?_);refine WR.cons ?_;refine WS.indexS (hk := ?_);refine WR.cons ?_;refine WS.eqI (h1 := ?_) (h2 := ?_);intro hh;refine WR.nil ?_;refine WC.condT hX (hw := ?_);refine WC.region hX ?_;refine WR.cons ?_;refine WS.move (hk := ?_);refine WR.cons ?_;refine WS.move (hk := ?_);refine WR.cons ?_;refine WS.move (hk := ?_);refine WR.cons ?_;refine WS.indexAddr (hk := ?_);refine WR.cons ?_;rotate_left;intro hh;refine WR.nil ?_;refine WC.condF hX (hw := ?_);refine WC.region hX ?_;refine WR.cons ?_;refine WS.move (hk := ?_);refine WR.cons ?_;refine WS.move (hk := ?_);refine WR.cons ?_;refine WS.move (hk := ?_);refine WR.cons ?_;refine WS.indexAddr (hk := ?_);refine WR.cons ?_;rotate_left
    · refine WS.loadS (v := .string E) (hc := hy) (hk := ?_)
      refine WR.cons ?_;refine WS.addS (hk := ?_);refine WR.cons ?_;refine WS.assign (hk := ?_);refine WR.nil ?_;refine WC.region hX ?_;refine WR.cons ?_;refine WS.addI (hk := ?_);refine WR.cons ?_;refine WS.move (hk := ?_);refine WR.nil ?_
      rw [if_pos (by assumption)] at hrep
      refine ih (i + 1) _ _ (by omega) ⟨e0, e1, e5, e8, e9, by rw [hrep]; rfl, e56, rfl, by omega, Wwne, Wwobj, Wwobj⟩
    · rw [if_neg (by assumption)] at hrep
      refine WS.loadS (v := .string H) (hc := hx) (hk := ?_)
      refine WR.cons ?_;refine WS.move (hk := ?_);refine WR.cons ?_;refine WS.indexS (hk := ?_);refine WR.cons ?_;refine WS.buildSlice (hk := ?_);refine WR.cons ?_
      refine WS.conv (fun H' => BSl H' 0 (some ⟨h3.next, 0, none⟩) 1 1 [byteN H (i : Int)]) rfl rfl Wwev (.inr ⟨_, rfl, Nat.zero_le _, Wwne, rfl, rfl, Wwobj⟩) (fun H' hH => hH.str) ?_
      have hs1 : (strOf [byteN H (i : Int)]).size = 1 := rfl
      refine WR.cons ?_;refine WS.addS (hk := ?_);refine WR.cons ?_;refine WS.assign (hk := ?_);refine WR.nil ?_;refine WC.region hX ?_;refine WR.cons ?_;refine WS.addI (hk := ?_);refine WR.cons ?_;refine WS.move (hk := ?_);refine WR.nil ?_
      refine ih (i + 1) _ _ (by omega) ⟨e0, e1, e5, e8, e9, by rw [hrep]; rfl, e56, rfl, by omega, Wwne, Wwobj, Wwobj⟩
  · have hiH : i = H.size := by omega
    subst hiH
    have hs3 : ((⟨#[102, 117, 110, 99, 32, 102, 40, 41, 32, 123, 10]⟩ : ByteArray) ++ replS H E H.size).size = 11 + (replS H E H.size).size := by rw [ByteArray.size_append]; rfl
    have hs4 : ((⟨#[102, 117, 110, 99, 32, 102, 40, 41, 32, 123, 10, 120, 32, 61, 32]⟩ : ByteArray) ++ E).size = 15 + E.size := by rw [ByteArray.size_append]; rfl
    have hs5 : ((⟨#[102, 117, 110, 99, 32, 102, 40, 41, 32, 123, 10]⟩ : ByteArray) ++ E).size = 11 + E.size := by rw [ByteArray.size_append]; rfl
    have hll : h1.next < h3.next := by omega
    cases M
    · skip
      refine WS.callF (he := en18) (hk := ?_)
      refine fine_w (n := 100) (by omega) (b := false) (by simpa using ht1) fun h4 g4 => ?_
      have hn4 := g4.1
      refine WR.cons ?_;refine WS.move (hk := ?_);refine WR.cons ?_;refine WS.eqG (h1 := ?_) (h2 := ?_);intro hh;refine WR.cons ?_;refine WS.move (hk := ?_);refine WR.cons ?_;refine WS.move (hk := ?_);refine WR.cons ?_;refine WS.move (hk := ?_);refine WR.cons ?_;refine WS.indexAddr (hk := ?_);refine WR.cons ?_;rotate_left;intro hh;exact Bool.noConfusion hh
      refine WS.loadS (v := .string E) (ho := g4.at (by omega) ho3) (hc := hy) (hk := ?_)
      refine WR.cons ?_;refine WS.addS (hk := ?_);refine WR.cons ?_;refine WS.addS (hk := ?_);refine WR.cons ?_
      refine WS.callF (he := en18) (hk := ?_)
      refine fine_w (n := 100) (by omega) (b := true) (by simpa using ht2) fun h5 g5 => ?_
      have hn5 := g5.1
      refine WR.cons ?_;refine WS.pickT (hk := ?_);refine WR.cons ?_;refine WS.move (hk := ?_);refine WR.cons ?_;refine WS.move (hk := ?_);refine WR.cons ?_;refine WS.move (hk := ?_);refine WR.cons ?_;refine WS.indexAddr (hk := ?_);refine WR.cons ?_
      refine WS.loadS (v := .string E) (ho := g5.at (by omega) (g4.at (by omega) ho3)) (hc := hy) (hk := ?_)
      refine WR.cons ?_;refine WS.addS (hk := ?_);refine WR.cons ?_;refine WS.addS (hk := ?_);refine WR.cons ?_
      refine WS.callF (he := en18) (hk := ?_)
      refine fine_w (n := 100) (by omega) (b := true) (by simpa using ht3) fun h6 g6 => ?_
      refine WR.cons ?_;refine WS.pickT (hk := ?_);refine WR.cons ?_;refine WS.assign (hk := ?_);refine WR.nil ?_;refine WC.ret ?_
      refine ⟨_, Wwres, ?_⟩
      exact hq _
    · skip
      refine WS.callF (he := en18) (hk := ?_)
      refine fine_w (n := 100) (by omega) (b := true) (by simpa using ht1) fun h4 g4 => ?_
      have hn4 := g4.1
      refine WR.cons ?_;refine WS.move (hk := ?_);refine WR.cons ?_;refine WS.eqG (h1 := ?_) (h2 := ?_);intro hh;refine WR.cons ?_;refine WS.move (hk := ?_);refine WR.cons ?_;refine WS.move (hk := ?_);refine WR.cons ?_;refine WS.move (hk := ?_);refine WR.cons ?_;refine WS.indexAddr (hk := ?_);refine WR.cons ?_;rotate_left;intro hh;exact Bool.noConfusion hh
      refine WS.loadS (v := .string E) (ho := g4.at (by omega) ho3) (hc := hy) (hk := ?_)
      refine WR.cons ?_;refine WS.addS (hk := ?_);refine WR.cons ?_;refine WS.addS (hk := ?_);refine WR.cons ?_
      refine WS.callF (he := en18) (hk := ?_)
      refine fine_w (n := 100) (by omega) (b := true) (by simpa using ht2) fun h5 g5 => ?_
      have hn5 := g5.1
      refine WR.cons ?_;refine WS.pickT (hk := ?_);refine WR.cons ?_;refine WS.move (hk := ?_);refine WR.cons ?_;refine WS.move (hk := ?_);refine WR.cons ?_;refine WS.move (hk := ?_);refine WR.cons ?_;refine WS.indexAddr (hk := ?_);refine WR.cons ?_
      refine WS.loadS (v := .string E) (ho := g5.at (by omega) (g4.at (by omega) ho3)) (hc := hy) (hk := ?_)
      refine WR.cons ?_;refine WS.addS (hk := ?_);refine WR.cons ?_;refine WS.addS (hk := ?_);refine WR.cons ?_
      refine WS.callF (he := en18) (hk := ?_)
      refine fine_w (n := 100) (by omega) (b := true) (by simpa using ht3) fun h6 g6 => ?_
      refine WR.cons ?_;refine WS.pickT (hk := ?_);refine WR.cons ?_;refine WS.assign (hk := ?_);refine WR.nil ?_;refine WC.ret ?_
      refine ⟨_, Wwres, ?_⟩
      exact hq _

end Go.Proofs.ZL
