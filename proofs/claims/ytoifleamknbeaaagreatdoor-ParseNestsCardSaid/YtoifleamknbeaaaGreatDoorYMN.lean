/- ParseNests: the walk. USEEQ -/
import Derived.Test.YtoifleamknbeaaaGreatDoorYMNa
import Derived.Test.YtoifleamknbeaaaGreatDoorYMN0
import Derived.Test.YtoifleamknbeaaaGreatDoorYMN1
import Derived.Test.YtoifleamknbeaaaGreatDoorYMN2
import Derived.Test.YtoifleamknbeaaaGreatDoorYMN3a
import Derived.Test.YtoifleamknbeaaaGreatDoorYMN3b
import Derived.Test.YtoifleamknbeaaaGreatDoorYMN4a
import Derived.Test.YtoifleamknbeaaaGreatDoorYMN4b
import Derived.Test.YtoifleamknbeaaaGreatDoorYMHt
open Go Go.Am
namespace Go.Proofs.ZL
set_option maxRecDepth 100000
set_option linter.unusedSimpArgs false
set_option linter.unusedVariables false
set_option maxHeartbeats 1000000

theorem wrapS_size (a b s : ByteArray) : ∀ n, (wrapS a b s n).size = s.size + n * (a.size + b.size)
  | 0 => by simp [wrapS]
  | n + 1 => by
    have ih := wrapS_size a b s n
    unfold wrapS
    rw [ByteArray.size_append, ByteArray.size_append, ih, Nat.succ_mul]; omega

theorem nest_all {k d : Nat} (hk : k < 5) (hd : d ≤ 100) : nestB k d = true := by
  have hm := List.mem_range.2 (show d < 101 by omega)
  obtain rfl | rfl | rfl | rfl | rfl : k = 0 ∨ k = 1 ∨ k = 2 ∨ k = 3 ∨ k = 4 := by omega
  · exact List.all_eq_true.1 nest_tab0 d hm
  · exact List.all_eq_true.1 nest_tab1 d hm
  · exact List.all_eq_true.1 nest_tab2 d hm
  · obtain ⟨i, hi, h⟩ : ∃ i, i < 17 ∧ (d = i + 0 ∨ d = i + 17 ∨ d = i + 34 ∨ d = i + 51 ∨ d = i + 68 ∨ d = i + 85) := ⟨d % 17, by omega, by omega⟩
    have hi := List.mem_range.2 hi
    rcases h with rfl | rfl | rfl | rfl | rfl | rfl
    · exact List.all_eq_true.1 nest_tab3_0 _ hi
    · exact List.all_eq_true.1 nest_tab3_1 _ hi
    · exact List.all_eq_true.1 nest_tab3_2 _ hi
    · exact List.all_eq_true.1 nest_tab3_3 _ hi
    · exact List.all_eq_true.1 nest_tab3_4 _ hi
    · exact List.all_eq_true.1 nest_tab3_5 _ hi
  · obtain ⟨i, hi, h⟩ : ∃ i, i < 17 ∧ (d = i + 0 ∨ d = i + 17 ∨ d = i + 34 ∨ d = i + 51 ∨ d = i + 68 ∨ d = i + 85) := ⟨d % 17, by omega, by omega⟩
    have hi := List.mem_range.2 hi
    rcases h with rfl | rfl | rfl | rfl | rfl | rfl
    · exact List.all_eq_true.1 nest_tab4_0 _ hi
    · exact List.all_eq_true.1 nest_tab4_1 _ hi
    · exact List.all_eq_true.1 nest_tab4_2 _ hi
    · exact List.all_eq_true.1 nest_tab4_3 _ hi
    · exact List.all_eq_true.1 nest_tab4_4 _ hi
    · exact List.all_eq_true.1 nest_tab4_5 _ hi

theorem parseNests_w {kind depth : Int} {h : Heap} {Q : ARes → Prop} (hq : ∀ h', Q (.ret (.bool true) h')) : WCall Tryz.prog G X 7 [.int .i64 kind, .int .i64 depth] h Q := by
  refine WCall.walk hX Tryz.func7 rfl rfl Tryz.ntmps7 rfl ?_
  refine WC.seq hX ?_;refine WC.region hX ?_;refine WR.cons ?_;refine WS.assign (hk := ?_);refine WR.nil ?_;refine WC.seq hX ?_;refine WC.seq hX ?_;refine WC.region hX ?_;refine WR.cons ?_
  refine WS.callF (he := en11) (hk := ?_)
  refine anchor_w fun h1 g1 => ?_
  refine WR.cons ?_;refine WS.not (hk := ?_);refine WR.nil ?_;refine WC.condF hX (hw := ?_);refine WC.skip ?_;refine WC.seq hX ?_;refine WC.seq hX ?_;refine WC.region hX ?_;refine WR.cons ?_;refine WS.move (hk := ?_);refine WR.cons ?_;refine WS.ltI (h1 := ?_) (h2 := ?_);intro hh;refine WR.cons ?_;refine WS.move (hk := ?_);refine WR.cons ?_;refine WS.uw (hk := ?_);refine WR.cons ?_;refine WS.uw (hk := ?_);refine WR.cons ?_;refine WS.pickT (hk := ?_);refine WR.cons ?_;refine WS.move (hk := ?_);refine WR.cons ?_;refine WS.uw (hk := ?_);refine WR.cons ?_;refine WS.uw (hk := ?_);refine WR.cons ?_;refine WS.pickT (hk := ?_);refine WR.cons ?_;refine WS.move (hk := ?_);refine WR.cons ?_;refine WS.uw (hk := ?_);refine WR.cons ?_;refine WS.uw (hk := ?_);refine WR.cons ?_;refine WS.pickT (hk := ?_);refine WR.nil ?_;refine WC.condT hX (hw := ?_);refine WC.seq hX ?_;refine WC.region hX ?_;refine WR.cons ?_;refine WS.assign (hk := ?_);refine WR.nil ?_;refine WC.ret ?_;rotate_left;intro hh;refine WR.cons ?_;refine WS.move (hk := ?_);refine WR.cons ?_;refine WS.move (hk := ?_);refine WR.cons ?_;refine WS.gtI (h1 := ?_) (h2 := ?_);intro hh;refine WR.cons ?_;refine WS.pickF (hk := ?_);refine WR.cons ?_;refine WS.move (hk := ?_);refine WR.cons ?_;refine WS.uw (hk := ?_);refine WR.cons ?_;refine WS.uw (hk := ?_);refine WR.cons ?_;refine WS.pickT (hk := ?_);refine WR.cons ?_;refine WS.move (hk := ?_);refine WR.cons ?_;refine WS.uw (hk := ?_);refine WR.cons ?_;refine WS.uw (hk := ?_);refine WR.cons ?_;refine WS.pickT (hk := ?_);refine WR.nil ?_;refine WC.condT hX (hw := ?_);refine WC.seq hX ?_;refine WC.region hX ?_;refine WR.cons ?_;refine WS.assign (hk := ?_);refine WR.nil ?_;refine WC.ret ?_;rotate_left;intro hh;refine WR.cons ?_;refine WS.pickF (hk := ?_);refine WR.cons ?_;refine WS.move (hk := ?_);refine WR.cons ?_;refine WS.move (hk := ?_);refine WR.cons ?_;refine WS.ltI (h1 := ?_) (h2 := ?_);intro hh;refine WR.cons ?_;refine WS.pickF (hk := ?_);refine WR.cons ?_;refine WS.move (hk := ?_);refine WR.cons ?_;refine WS.uw (hk := ?_);refine WR.cons ?_;refine WS.uw (hk := ?_);refine WR.cons ?_;refine WS.pickT (hk := ?_);refine WR.nil ?_;refine WC.condT hX (hw := ?_);refine WC.seq hX ?_;refine WC.region hX ?_;refine WR.cons ?_;refine WS.assign (hk := ?_);refine WR.nil ?_;refine WC.ret ?_;rotate_left;intro hh;refine WR.cons ?_;refine WS.pickF (hk := ?_);refine WR.cons ?_;refine WS.move (hk := ?_);refine WR.cons ?_;refine WS.move (hk := ?_);refine WR.cons ?_;refine WS.gtI (h1 := ?_) (h2 := ?_);intro hh;refine WR.cons ?_;refine WS.pickF (hk := ?_);refine WR.nil ?_;refine WC.condT hX (hw := ?_);refine WC.seq hX ?_;refine WC.region hX ?_;refine WR.cons ?_;refine WS.assign (hk := ?_);refine WR.nil ?_;refine WC.ret ?_;rotate_left;intro hh;refine WR.cons ?_;refine WS.pickF (hk := ?_);refine WR.nil ?_;refine WC.condF hX (hw := ?_);refine WC.skip ?_;refine WC.seq hX ?_;refine WC.region hX ?_;refine WR.cons ?_;refine WS.buildSlice (hk := ?_);refine WR.cons ?_;refine WS.move (hk := ?_);refine WR.cons ?_;refine WS.indexAddr (hk := ?_);refine WR.cons ?_;rotate_left
  · ((apply Exists.intro; apply And.intro; (· repeat (first | exact resultA_nil | (apply resultA_tmp; (· (first | rfl | assumption))) | (apply resultA_cellG; (· (first | rfl | assumption)); (· rfl); (· exact sz_at rfl); (· (repeat (first | assumption | (with_reducible rfl) | exact obj_new | exact obj_put | (refine obj_old (by (first | omega | (simp only [Heap.alloc_next, Heap.put_next]; omega))) ?_) | (refine obj_else (by (first | omega | (simp only [Heap.alloc_next, Heap.put_next]; omega))) ?_) | (apply Gr.at; (· assumption); (· (first | omega | (simp only [Heap.alloc_next, Heap.put_next]; omega)))) | (apply Fr1.at; (· assumption); (· (first | omega | (simp only [Heap.alloc_next, Heap.put_next]; omega))); (· (first | omega | (simp only [Heap.alloc_next, Heap.put_next]; omega))))))); (· (first | (exact Nat.le_of_ble_eq_true rfl) | (simp; done) | omega)); (· rfl)) | (apply resultA_cellS; (· (first | rfl | assumption)); (· rfl); (· (repeat (first | assumption | (with_reducible rfl) | exact obj_new | exact obj_put | (refine obj_old (by (first | omega | (simp only [Heap.alloc_next, Heap.put_next]; omega))) ?_) | (refine obj_else (by (first | omega | (simp only [Heap.alloc_next, Heap.put_next]; omega))) ?_) | (apply Gr.at; (· assumption); (· (first | omega | (simp only [Heap.alloc_next, Heap.put_next]; omega)))) | (apply Fr1.at; (· assumption); (· (first | omega | (simp only [Heap.alloc_next, Heap.put_next]; omega))); (· (first | omega | (simp only [Heap.alloc_next, Heap.put_next]; omega))))))); (· rfl)))))); exact hq _
  · ((apply Exists.intro; apply And.intro; (· repeat (first | exact resultA_nil | (apply resultA_tmp; (· (first | rfl | assumption))) | (apply resultA_cellG; (· (first | rfl | assumption)); (· rfl); (· exact sz_at rfl); (· (repeat (first | assumption | (with_reducible rfl) | exact obj_new | exact obj_put | (refine obj_old (by (first | omega | (simp only [Heap.alloc_next, Heap.put_next]; omega))) ?_) | (refine obj_else (by (first | omega | (simp only [Heap.alloc_next, Heap.put_next]; omega))) ?_) | (apply Gr.at; (· assumption); (· (first | omega | (simp only [Heap.alloc_next, Heap.put_next]; omega)))) | (apply Fr1.at; (· assumption); (· (first | omega | (simp only [Heap.alloc_next, Heap.put_next]; omega))); (· (first | omega | (simp only [Heap.alloc_next, Heap.put_next]; omega))))))); (· (first | (exact Nat.le_of_ble_eq_true rfl) | (simp; done) | omega)); (· rfl)) | (apply resultA_cellS; (· (first | rfl | assumption)); (· rfl); (· (repeat (first | assumption | (with_reducible rfl) | exact obj_new | exact obj_put | (refine obj_old (by (first | omega | (simp only [Heap.alloc_next, Heap.put_next]; omega))) ?_) | (refine obj_else (by (first | omega | (simp only [Heap.alloc_next, Heap.put_next]; omega))) ?_) | (apply Gr.at; (· assumption); (· (first | omega | (simp only [Heap.alloc_next, Heap.put_next]; omega)))) | (apply Fr1.at; (· assumption); (· (first | omega | (simp only [Heap.alloc_next, Heap.put_next]; omega))); (· (first | omega | (simp only [Heap.alloc_next, Heap.put_next]; omega))))))); (· rfl)))))); exact hq _
  · ((apply Exists.intro; apply And.intro; (· repeat (first | exact resultA_nil | (apply resultA_tmp; (· (first | rfl | assumption))) | (apply resultA_cellG; (· (first | rfl | assumption)); (· rfl); (· exact sz_at rfl); (· (repeat (first | assumption | (with_reducible rfl) | exact obj_new | exact obj_put | (refine obj_old (by (first | omega | (simp only [Heap.alloc_next, Heap.put_next]; omega))) ?_) | (refine obj_else (by (first | omega | (simp only [Heap.alloc_next, Heap.put_next]; omega))) ?_) | (apply Gr.at; (· assumption); (· (first | omega | (simp only [Heap.alloc_next, Heap.put_next]; omega)))) | (apply Fr1.at; (· assumption); (· (first | omega | (simp only [Heap.alloc_next, Heap.put_next]; omega))); (· (first | omega | (simp only [Heap.alloc_next, Heap.put_next]; omega))))))); (· (first | (exact Nat.le_of_ble_eq_true rfl) | (simp; done) | omega)); (· rfl)) | (apply resultA_cellS; (· (first | rfl | assumption)); (· rfl); (· (repeat (first | assumption | (with_reducible rfl) | exact obj_new | exact obj_put | (refine obj_old (by (first | omega | (simp only [Heap.alloc_next, Heap.put_next]; omega))) ?_) | (refine obj_else (by (first | omega | (simp only [Heap.alloc_next, Heap.put_next]; omega))) ?_) | (apply Gr.at; (· assumption); (· (first | omega | (simp only [Heap.alloc_next, Heap.put_next]; omega)))) | (apply Fr1.at; (· assumption); (· (first | omega | (simp only [Heap.alloc_next, Heap.put_next]; omega))); (· (first | omega | (simp only [Heap.alloc_next, Heap.put_next]; omega))))))); (· rfl)))))); exact hq _
  · ((apply Exists.intro; apply And.intro; (· repeat (first | exact resultA_nil | (apply resultA_tmp; (· (first | rfl | assumption))) | (apply resultA_cellG; (· (first | rfl | assumption)); (· rfl); (· exact sz_at rfl); (· (repeat (first | assumption | (with_reducible rfl) | exact obj_new | exact obj_put | (refine obj_old (by (first | omega | (simp only [Heap.alloc_next, Heap.put_next]; omega))) ?_) | (refine obj_else (by (first | omega | (simp only [Heap.alloc_next, Heap.put_next]; omega))) ?_) | (apply Gr.at; (· assumption); (· (first | omega | (simp only [Heap.alloc_next, Heap.put_next]; omega)))) | (apply Fr1.at; (· assumption); (· (first | omega | (simp only [Heap.alloc_next, Heap.put_next]; omega))); (· (first | omega | (simp only [Heap.alloc_next, Heap.put_next]; omega))))))); (· (first | (exact Nat.le_of_ble_eq_true rfl) | (simp; done) | omega)); (· rfl)) | (apply resultA_cellS; (· (first | rfl | assumption)); (· rfl); (· (repeat (first | assumption | (with_reducible rfl) | exact obj_new | exact obj_put | (refine obj_old (by (first | omega | (simp only [Heap.alloc_next, Heap.put_next]; omega))) ?_) | (refine obj_else (by (first | omega | (simp only [Heap.alloc_next, Heap.put_next]; omega))) ?_) | (apply Gr.at; (· assumption); (· (first | omega | (simp only [Heap.alloc_next, Heap.put_next]; omega)))) | (apply Fr1.at; (· assumption); (· (first | omega | (simp only [Heap.alloc_next, Heap.put_next]; omega))); (· (first | omega | (simp only [Heap.alloc_next, Heap.put_next]; omega))))))); (· rfl)))))); exact hq _
  have hx := list_at (l := opnL) (k := kind) (by simp [opnL]; omega)
  have hy := list_at (l := shutL) (k := kind) (by simp [shutL]; omega)
  have hz := getD_size (l := opnL) (n := 100) (by decide) kind.toNat
  have hw := getD_size (l := shutL) (n := 100) (by decide) kind.toNat
  have hb := nest_all (k := kind.toNat) (d := depth.toNat) (by omega) (by omega)
  unfold nestB at hb
  split at hb
  case h_2 => cases hb
  rename_i t st p hp
  have hp := parseK_eq hp
  unfold nestT at hp
  refine WS.loadS (v := .string (opnL.getD kind.toNat .empty)) (hc := hx) (hk := ?_)
  refine WR.cons ?_;refine WS.assign (hk := ?_);refine WR.nil ?_;refine WC.seq hX ?_;refine WC.region hX ?_;refine WR.cons ?_;refine WS.buildSlice (hk := ?_);refine WR.cons ?_;refine WS.move (hk := ?_);refine WR.cons ?_;refine WS.indexAddr (hk := ?_);refine WR.cons ?_
  refine WS.loadS (v := .string (shutL.getD kind.toNat .empty)) (hc := hy) (hk := ?_)
  refine WR.cons ?_;refine WS.assign (hk := ?_);refine WR.nil ?_;refine WC.seq hX ?_;refine WC.region hX ?_;refine WR.cons ?_;refine WS.assign (hk := ?_);refine WR.cons ?_;refine WS.assign (hk := ?_);refine WR.nil ?_;refine WC.seq hX ?_;refine WC.seq hX ?_;refine WC.region hX ?_;refine WR.cons ?_;refine WS.move (hk := ?_);refine WR.cons ?_;refine WS.eqI (h1 := ?_) (h2 := ?_);intro hh;refine WR.cons ?_;refine WS.move (hk := ?_);refine WR.cons ?_;refine WS.uw (hk := ?_);refine WR.cons ?_;refine WS.uw (hk := ?_);refine WR.cons ?_;refine WS.pickT (hk := ?_);refine WR.nil ?_;refine WC.condT hX (hw := ?_);refine WC.seq hX ?_;refine WC.region hX ?_;refine WR.cons ?_;refine WS.assign (hk := ?_);refine WR.nil ?_;refine WC.seq hX ?_;refine WC.seq hX ?_;refine WC.region hX ?_;refine WR.cons ?_;refine WS.move (hk := ?_);refine WR.cons ?_;refine WS.move (hk := ?_);refine WR.nil ?_;refine WC.block hX ?_;rotate_left;intro hh;refine WR.cons ?_;refine WS.move (hk := ?_);refine WR.cons ?_;refine WS.move (hk := ?_);refine WR.cons ?_;refine WS.eqI (h1 := ?_) (h2 := ?_);intro hh;refine WR.cons ?_;refine WS.pickF (hk := ?_);refine WR.nil ?_;refine WC.condT hX (hw := ?_);refine WC.seq hX ?_;refine WC.region hX ?_;refine WR.cons ?_;refine WS.assign (hk := ?_);refine WR.nil ?_;refine WC.seq hX ?_;refine WC.seq hX ?_;refine WC.region hX ?_;refine WR.cons ?_;refine WS.move (hk := ?_);refine WR.cons ?_;refine WS.move (hk := ?_);refine WR.nil ?_;refine WC.block hX ?_;rotate_left;intro hh;refine WR.cons ?_;refine WS.pickF (hk := ?_);refine WR.nil ?_;refine WC.condF hX (hw := ?_);refine WC.seq hX ?_;refine WC.region hX ?_;refine WR.cons ?_;refine WS.move (hk := ?_);refine WR.cons ?_;refine WS.move (hk := ?_);refine WR.nil ?_;refine WC.block hX ?_;rotate_left
  · have hk : kind.toNat = 1 := by omega
    rw [if_pos hk] at hp
    have lx : ((⟨#[120]⟩ : ByteArray) : ByteArray).size = 1 := rfl
    have l4 : ((⟨#[120, 32, 61, 32]⟩ : ByteArray) : ByteArray).size = 4 := rfl
    have l5 : ((⟨#[10]⟩ : ByteArray) : ByteArray).size = 1 := rfl
    have lp : ((⟨#[40]⟩ : ByteArray) : ByteArray).size = 1 := rfl
    have lq : ((⟨#[41]⟩ : ByteArray) : ByteArray).size = 1 := rfl
    refine WC.loopInv hX (α := Nat) (m := fun i => depth.toNat - i) (Inv := fun i v h3 => v 0 = some (.int .i64 kind) ∧ v 1 = some (.int .i64 depth) ∧ v 7 = some (.string (wrapS (⟨#[40]⟩ : ByteArray) (⟨#[41]⟩ : ByteArray) (⟨#[120]⟩ : ByteArray) i)) ∧ v 8 = some (.int .i64 1) ∧ v 41 = some (.int .i64 depth) ∧ v 42 = some (.int .i64 i) ∧ i ≤ depth.toNat)
      0 ⟨rfl, rfl, rfl, rfl, rfl, rfl, by omega⟩ ?_
    rintro i v h3 ih ⟨e0, e1, e7, e8, e41, e42, hi⟩
    have hs := wrapS_size (⟨#[40]⟩ : ByteArray) (⟨#[41]⟩ : ByteArray) (⟨#[120]⟩ : ByteArray) i
    have hrep : wrapS (⟨#[40]⟩ : ByteArray) (⟨#[41]⟩ : ByteArray) (⟨#[120]⟩ : ByteArray) (i + 1) = (⟨#[40]⟩ : ByteArray) ++ wrapS (⟨#[40]⟩ : ByteArray) (⟨#[41]⟩ : ByteArray) (⟨#[120]⟩ : ByteArray) i ++ (⟨#[41]⟩ : ByteArray) := rfl
    rw [lx, lp, lq] at hs
    refine WC.seq hX ?_;refine WC.region hX ?_;refine WR.cons ?_;refine WS.ltI (h1 := ?_) (h2 := ?_);intro hh;refine WR.nil ?_;refine WC.seq hX ?_;refine WC.condT hX (hw := ?_);refine WC.skip ?_;refine WC.seq hX ?_;refine WC.block hX ?_;refine WC.seq hX ?_;refine WC.region hX ?_;refine WR.cons ?_;refine WS.move (hk := ?_);refine WR.cons ?_;refine WS.eqI (h1 := ?_) (h2 := ?_);intro hh;refine WR.nil ?_;refine WC.condT hX (hw := ?_);refine WC.region hX ?_;refine WR.cons ?_;refine WS.move (hk := ?_);refine WR.cons ?_;refine WS.addS (hk := ?_);refine WR.cons ?_;refine WS.addS (hk := ?_);refine WR.cons ?_;refine WS.assign (hk := ?_);refine WR.nil ?_;refine WC.region hX ?_;refine WR.cons ?_;refine WS.addI (hk := ?_);refine WR.cons ?_;refine WS.move (hk := ?_);refine WR.nil ?_;rotate_left;intro hh;exfalso;omega;intro hh;refine WR.nil ?_;refine WC.seq hX ?_;refine WC.condF hX (hw := ?_);refine WC.exit ?_;refine exit_here ?_;refine WC.region hX ?_;refine WR.cons ?_;refine WS.move (hk := ?_);refine WR.cons ?_;refine WS.addS (hk := ?_);refine WR.cons ?_;refine WS.addS (hk := ?_);refine WR.cons ?_;refine WS.assign (hk := ?_);refine WR.nil ?_;refine WC.seq hX ?_;refine WC.region hX ?_;refine WR.cons ?_;refine WS.move (hk := ?_);refine WR.cons ?_;refine WS.addS (hk := ?_);refine WR.cons ?_;refine WS.addS (hk := ?_);refine WR.cons ?_;rotate_left
    · refine ih (i + 1) _ _ (by omega) ⟨e0, e1, by rw [hrep]; rfl, e8, e41, rfl, by omega⟩
    · have hiH : i = depth.toNat := by omega
      subst hiH
      have l1 : ((⟨#[102, 117, 110, 99, 32, 102, 40, 41, 32, 123, 10]⟩ : ByteArray) : ByteArray).size = 11 := rfl
      have l2 : ((⟨#[125, 10]⟩ : ByteArray) : ByteArray).size = 2 := rfl
      skip
      refine WS.callF (he := en12) (hk := ?_)
      refine Parse_w (n := 300) (by omega) hp fun h2 b2 m2 es2 g2 kv2 => ?_
      have hn2 := g2.1
      by_cases h40 : 40 < depth.toNat + 1
      · rw [if_pos h40] at hb
        simp only [decide_eq_true_eq] at hb
        subst hb
        refine WR.cons ?_;refine WS.move (hk := ?_);refine WR.cons ?_;refine WS.extractN (hk := ?_);refine WR.cons ?_;refine WS.extractN (hk := ?_);refine WR.cons ?_;refine WS.alloc (hk := ?_);refine WR.cons ?_;refine WS.alloc (hk := ?_);refine WR.cons ?_;refine WS.store (hk := ?_);refine WR.cons ?_;refine WS.store (hk := ?_);refine WR.nil ?_;refine WC.seq hX ?_;refine WC.seq hX ?_;refine WC.region hX ?_;refine WR.cons ?_;refine WS.move (hk := ?_);refine WR.cons ?_;refine WS.move (hk := ?_);refine WR.cons ?_;refine WS.addI (hk := ?_);refine WR.cons ?_;refine WS.gtI (h1 := ?_) (h2 := ?_);intro hh;refine WR.nil ?_;refine WC.condT hX (hw := ?_);refine WC.seq hX ?_;refine WC.region hX ?_;refine WR.cons ?_;refine WS.fieldAddr (hk := ?_);refine WR.cons ?_;refine WS.loadS (hk := ?_);refine WR.cons ?_;refine WS.eqI (h1 := ?_) (h2 := ?_);intro hh;refine WR.cons ?_;refine WS.assign (hk := ?_);refine WR.nil ?_;refine WC.ret ?_;rotate_left;intro hh;exfalso;omega;intro hh;exfalso;omega
        refine ⟨_, Wwres, ?_⟩
        exact hq _
      · rw [if_neg h40] at hb
        simp only [decide_eq_true_eq] at hb
        obtain ⟨rfl, rfl, _⟩ := hb
        refine WR.cons ?_;refine WS.move (hk := ?_);refine WR.cons ?_;refine WS.extractN (hk := ?_);refine WR.cons ?_;refine WS.extractN (hk := ?_);refine WR.cons ?_;refine WS.alloc (hk := ?_);refine WR.cons ?_;refine WS.alloc (hk := ?_);refine WR.cons ?_;refine WS.store (hk := ?_);refine WR.cons ?_;refine WS.store (hk := ?_);refine WR.nil ?_;refine WC.seq hX ?_;refine WC.seq hX ?_;refine WC.region hX ?_;refine WR.cons ?_;refine WS.move (hk := ?_);refine WR.cons ?_;refine WS.move (hk := ?_);refine WR.cons ?_;refine WS.addI (hk := ?_);refine WR.cons ?_;refine WS.gtI (h1 := ?_) (h2 := ?_);intro hh;exfalso;omega;intro hh;refine WR.nil ?_;refine WC.condF hX (hw := ?_);refine WC.skip ?_;refine WC.seq hX ?_;refine WC.region hX ?_;refine WR.cons ?_;refine WS.loadG (hk := ?_);refine WR.cons ?_;refine WS.build (hk := ?_);refine WR.cons ?_;refine WS_eq26 (h1 := ?_) (h2 := ?_);intro hh;refine WR.cons ?_;refine WS.assign (hk := ?_);refine WR.nil ?_;refine WC.ret ?_;rotate_left;intro hh;exfalso;simp at hh
        refine ⟨_, Wwres, ?_⟩
        exact hq _
  · have hk : kind.toNat = 2 := by omega
    rw [if_neg (by omega), if_pos hk] at hp
    have lx : ((⟨#[120]⟩ : ByteArray) : ByteArray).size = 1 := rfl
    have l4 : ((⟨#[120, 32, 61, 32]⟩ : ByteArray) : ByteArray).size = 4 := rfl
    have l5 : ((⟨#[10]⟩ : ByteArray) : ByteArray).size = 1 := rfl
    generalize opnL.getD kind.toNat .empty = A at *
    generalize shutL.getD kind.toNat .empty = B at *
    refine WC.loopInv hX (α := Nat) (m := fun i => depth.toNat - i) (Inv := fun i v h3 => v 0 = some (.int .i64 kind) ∧ v 1 = some (.int .i64 depth) ∧ v 5 = some (.string A) ∧ v 6 = some (.string B) ∧ v 7 = some (.string (wrapS A B (⟨#[120]⟩ : ByteArray) i)) ∧ v 8 = some (.int .i64 1) ∧ v 41 = some (.int .i64 depth) ∧ v 42 = some (.int .i64 i) ∧ i ≤ depth.toNat)
      0 ⟨rfl, rfl, rfl, rfl, rfl, rfl, rfl, rfl, by omega⟩ ?_
    rintro i v h3 ih ⟨e0, e1, e5, e6, e7, e8, e41, e42, hi⟩
    have hs := wrapS_size A B (⟨#[120]⟩ : ByteArray) i
    have hs2 : i * (A.size + B.size) ≤ 100 * (A.size + B.size) := Nat.mul_le_mul_right _ (by omega)
    have hrep : wrapS A B (⟨#[120]⟩ : ByteArray) (i + 1) = A ++ wrapS A B (⟨#[120]⟩ : ByteArray) i ++ B := rfl
    rw [lx] at hs
    refine WC.seq hX ?_;refine WC.region hX ?_;refine WR.cons ?_;refine WS.ltI (h1 := ?_) (h2 := ?_);intro hh;refine WR.nil ?_;refine WC.seq hX ?_;refine WC.condT hX (hw := ?_);refine WC.skip ?_;refine WC.seq hX ?_;refine WC.block hX ?_;refine WC.seq hX ?_;refine WC.region hX ?_;refine WR.cons ?_;refine WS.move (hk := ?_);refine WR.cons ?_;refine WS.eqI (h1 := ?_) (h2 := ?_);intro hh;exfalso;omega;intro hh;refine WR.nil ?_;refine WC.condF hX (hw := ?_);refine WC.region hX ?_;refine WR.cons ?_;refine WS.move (hk := ?_);refine WR.cons ?_;refine WS.move (hk := ?_);refine WR.cons ?_;refine WS.addS (hk := ?_);refine WR.cons ?_;refine WS.move (hk := ?_);refine WR.cons ?_;refine WS.addS (hk := ?_);refine WR.cons ?_;refine WS.assign (hk := ?_);refine WR.nil ?_;refine WC.region hX ?_;refine WR.cons ?_;refine WS.addI (hk := ?_);refine WR.cons ?_;refine WS.move (hk := ?_);refine WR.nil ?_;rotate_left;intro hh;refine WR.nil ?_;refine WC.seq hX ?_;refine WC.condF hX (hw := ?_);refine WC.exit ?_;refine exit_here ?_;refine WC.region hX ?_;refine WR.cons ?_;refine WS.move (hk := ?_);refine WR.cons ?_;refine WS.addS (hk := ?_);refine WR.cons ?_;refine WS.addS (hk := ?_);refine WR.cons ?_;refine WS.assign (hk := ?_);refine WR.nil ?_;refine WC.seq hX ?_;refine WC.region hX ?_;refine WR.cons ?_;refine WS.move (hk := ?_);refine WR.cons ?_;refine WS.addS (hk := ?_);refine WR.cons ?_;refine WS.addS (hk := ?_);refine WR.cons ?_;rotate_left
    · refine ih (i + 1) _ _ (by omega) ⟨e0, e1, e5, e6, by rw [hrep]; rfl, e8, e41, rfl, by omega⟩
    · have hiH : i = depth.toNat := by omega
      subst hiH
      have l1 : ((⟨#[102, 117, 110, 99, 32, 102, 40, 41, 32, 123, 10]⟩ : ByteArray) : ByteArray).size = 11 := rfl
      have l2 : ((⟨#[125, 10]⟩ : ByteArray) : ByteArray).size = 2 := rfl
      skip
      refine WS.callF (he := en12) (hk := ?_)
      refine Parse_w (n := 300) (by omega) hp fun h2 b2 m2 es2 g2 kv2 => ?_
      have hn2 := g2.1
      by_cases h40 : 40 < depth.toNat + 1
      · rw [if_pos h40] at hb
        simp only [decide_eq_true_eq] at hb
        subst hb
        refine WR.cons ?_;refine WS.move (hk := ?_);refine WR.cons ?_;refine WS.extractN (hk := ?_);refine WR.cons ?_;refine WS.extractN (hk := ?_);refine WR.cons ?_;refine WS.alloc (hk := ?_);refine WR.cons ?_;refine WS.alloc (hk := ?_);refine WR.cons ?_;refine WS.store (hk := ?_);refine WR.cons ?_;refine WS.store (hk := ?_);refine WR.nil ?_;refine WC.seq hX ?_;refine WC.seq hX ?_;refine WC.region hX ?_;refine WR.cons ?_;refine WS.move (hk := ?_);refine WR.cons ?_;refine WS.move (hk := ?_);refine WR.cons ?_;refine WS.addI (hk := ?_);refine WR.cons ?_;refine WS.gtI (h1 := ?_) (h2 := ?_);intro hh;refine WR.nil ?_;refine WC.condT hX (hw := ?_);refine WC.seq hX ?_;refine WC.region hX ?_;refine WR.cons ?_;refine WS.fieldAddr (hk := ?_);refine WR.cons ?_;refine WS.loadS (hk := ?_);refine WR.cons ?_;refine WS.eqI (h1 := ?_) (h2 := ?_);intro hh;refine WR.cons ?_;refine WS.assign (hk := ?_);refine WR.nil ?_;refine WC.ret ?_;rotate_left;intro hh;exfalso;omega;intro hh;exfalso;omega
        refine ⟨_, Wwres, ?_⟩
        exact hq _
      · rw [if_neg h40] at hb
        simp only [decide_eq_true_eq] at hb
        obtain ⟨rfl, rfl, _⟩ := hb
        refine WR.cons ?_;refine WS.move (hk := ?_);refine WR.cons ?_;refine WS.extractN (hk := ?_);refine WR.cons ?_;refine WS.extractN (hk := ?_);refine WR.cons ?_;refine WS.alloc (hk := ?_);refine WR.cons ?_;refine WS.alloc (hk := ?_);refine WR.cons ?_;refine WS.store (hk := ?_);refine WR.cons ?_;refine WS.store (hk := ?_);refine WR.nil ?_;refine WC.seq hX ?_;refine WC.seq hX ?_;refine WC.region hX ?_;refine WR.cons ?_;refine WS.move (hk := ?_);refine WR.cons ?_;refine WS.move (hk := ?_);refine WR.cons ?_;refine WS.addI (hk := ?_);refine WR.cons ?_;refine WS.gtI (h1 := ?_) (h2 := ?_);intro hh;exfalso;omega;intro hh;refine WR.nil ?_;refine WC.condF hX (hw := ?_);refine WC.skip ?_;refine WC.seq hX ?_;refine WC.region hX ?_;refine WR.cons ?_;refine WS.loadG (hk := ?_);refine WR.cons ?_;refine WS.build (hk := ?_);refine WR.cons ?_;refine WS_eq26 (h1 := ?_) (h2 := ?_);intro hh;refine WR.cons ?_;refine WS.assign (hk := ?_);refine WR.nil ?_;refine WC.ret ?_;rotate_left;intro hh;exfalso;simp at hh
        refine ⟨_, Wwres, ?_⟩
        exact hq _
  · rw [if_neg (by omega), if_neg (by omega)] at hp
    generalize opnL.getD kind.toNat .empty = A at *
    generalize shutL.getD kind.toNat .empty = B at *
    refine WC.loopInv hX (α := Nat) (m := fun i => depth.toNat - i) (Inv := fun i v h3 => v 1 = some (.int .i64 depth) ∧ v 5 = some (.string A) ∧ v 6 = some (.string B) ∧ v 7 = some (.string (wrapS A B .empty i)) ∧ v 8 = some (.int .i64 1) ∧ v 58 = some (.int .i64 depth) ∧ v 59 = some (.int .i64 i) ∧ i ≤ depth.toNat)
      0 ⟨rfl, rfl, rfl, rfl, rfl, rfl, rfl, by omega⟩ ?_
    rintro i v h3 ih ⟨e1, e5, e6, e7, e8, e58, e59, hi⟩
    have hs := wrapS_size A B .empty i
    have hs2 : i * (A.size + B.size) ≤ 100 * (A.size + B.size) := Nat.mul_le_mul_right _ (by omega)
    have hrep : wrapS A B .empty (i + 1) = A ++ wrapS A B .empty i ++ B := rfl
    rw [show ByteArray.empty.size = 0 from rfl] at hs
    refine WC.seq hX ?_;refine WC.region hX ?_;refine WR.cons ?_;refine WS.ltI (h1 := ?_) (h2 := ?_);intro hh;refine WR.nil ?_;refine WC.seq hX ?_;refine WC.condT hX (hw := ?_);refine WC.skip ?_;refine WC.seq hX ?_;refine WC.block hX ?_;refine WC.region hX ?_;refine WR.cons ?_;refine WS.move (hk := ?_);refine WR.cons ?_;refine WS.move (hk := ?_);refine WR.cons ?_;refine WS.addS (hk := ?_);refine WR.cons ?_;refine WS.move (hk := ?_);refine WR.cons ?_;refine WS.addS (hk := ?_);refine WR.cons ?_;refine WS.assign (hk := ?_);refine WR.nil ?_;refine WC.region hX ?_;refine WR.cons ?_;refine WS.addI (hk := ?_);refine WR.cons ?_;refine WS.move (hk := ?_);refine WR.nil ?_;rotate_left;intro hh;refine WR.nil ?_;refine WC.seq hX ?_;refine WC.condF hX (hw := ?_);refine WC.exit ?_;refine exit_here ?_;refine WC.seq hX ?_;refine WC.region hX ?_;refine WR.cons ?_;refine WS.move (hk := ?_);refine WR.cons ?_;refine WS.addS (hk := ?_);refine WR.cons ?_;refine WS.addS (hk := ?_);refine WR.cons ?_;rotate_left
    · refine ih (i + 1) _ _ (by omega) ⟨e1, e5, e6, by rw [hrep]; rfl, e8, e58, rfl, by omega⟩
    · have hiH : i = depth.toNat := by omega
      subst hiH
      have l1 : ((⟨#[102, 117, 110, 99, 32, 102, 40, 41, 32, 123, 10]⟩ : ByteArray) : ByteArray).size = 11 := rfl
      have l2 : ((⟨#[125, 10]⟩ : ByteArray) : ByteArray).size = 2 := rfl
      skip
      refine WS.callF (he := en12) (hk := ?_)
      refine Parse_w (n := 300) (by omega) hp fun h2 b2 m2 es2 g2 kv2 => ?_
      have hn2 := g2.1
      by_cases h40 : 40 < depth.toNat + 1
      · rw [if_pos h40] at hb
        simp only [decide_eq_true_eq] at hb
        subst hb
        refine WR.cons ?_;refine WS.move (hk := ?_);refine WR.cons ?_;refine WS.extractN (hk := ?_);refine WR.cons ?_;refine WS.extractN (hk := ?_);refine WR.cons ?_;refine WS.alloc (hk := ?_);refine WR.cons ?_;refine WS.alloc (hk := ?_);refine WR.cons ?_;refine WS.store (hk := ?_);refine WR.cons ?_;refine WS.store (hk := ?_);refine WR.nil ?_;refine WC.seq hX ?_;refine WC.seq hX ?_;refine WC.region hX ?_;refine WR.cons ?_;refine WS.move (hk := ?_);refine WR.cons ?_;refine WS.move (hk := ?_);refine WR.cons ?_;refine WS.addI (hk := ?_);refine WR.cons ?_;refine WS.gtI (h1 := ?_) (h2 := ?_);intro hh;refine WR.nil ?_;refine WC.condT hX (hw := ?_);refine WC.seq hX ?_;refine WC.region hX ?_;refine WR.cons ?_;refine WS.fieldAddr (hk := ?_);refine WR.cons ?_;refine WS.loadS (hk := ?_);refine WR.cons ?_;refine WS.eqI (h1 := ?_) (h2 := ?_);intro hh;refine WR.cons ?_;refine WS.assign (hk := ?_);refine WR.nil ?_;refine WC.ret ?_;rotate_left;intro hh;exfalso;omega;intro hh;exfalso;omega
        refine ⟨_, Wwres, ?_⟩
        exact hq _
      · rw [if_neg h40] at hb
        simp only [decide_eq_true_eq] at hb
        obtain ⟨rfl, rfl, _⟩ := hb
        refine WR.cons ?_;refine WS.move (hk := ?_);refine WR.cons ?_;refine WS.extractN (hk := ?_);refine WR.cons ?_;refine WS.extractN (hk := ?_);refine WR.cons ?_;refine WS.alloc (hk := ?_);refine WR.cons ?_;refine WS.alloc (hk := ?_);refine WR.cons ?_;refine WS.store (hk := ?_);refine WR.cons ?_;refine WS.store (hk := ?_);refine WR.nil ?_;refine WC.seq hX ?_;refine WC.seq hX ?_;refine WC.region hX ?_;refine WR.cons ?_;refine WS.move (hk := ?_);refine WR.cons ?_;refine WS.move (hk := ?_);refine WR.cons ?_;refine WS.addI (hk := ?_);refine WR.cons ?_;refine WS.gtI (h1 := ?_) (h2 := ?_);intro hh;exfalso;omega;intro hh;refine WR.nil ?_;refine WC.condF hX (hw := ?_);refine WC.skip ?_;refine WC.seq hX ?_;refine WC.region hX ?_;refine WR.cons ?_;refine WS.loadG (hk := ?_);refine WR.cons ?_;refine WS.build (hk := ?_);refine WR.cons ?_;refine WS_eq26 (h1 := ?_) (h2 := ?_);intro hh;refine WR.cons ?_;refine WS.assign (hk := ?_);refine WR.nil ?_;refine WC.ret ?_;rotate_left;intro hh;exfalso;simp at hh
        refine ⟨_, Wwres, ?_⟩
        exact hq _

end Go.Proofs.ZL
