/- the whole source -/
import Derived.Test.YtfooolbjhhfbiaaDoorZLl
open Go Go.Am
namespace Go.Proofs.ZL
set_option maxRecDepth 100000
set_option maxHeartbeats 4000000

def SErr.isOk : SErr → Bool
  | .ok => true
  | _ => false

theorem runN_pos {p : Int → Bool} {src : ByteArray} {k : Nat} (hk : k < src.size) (hp : p (byteN src k) = true) : 1 ≤ runN p src k := by
  obtain ⟨c, hc, hw⟩ := byteN_get hk
  unfold runN
  rw [List.drop_eq_getElem_cons (by simpa using hk), List.takeWhile_cons]
  rw [List.getElem?_eq_getElem (by simpa using hk)] at hc
  rw [Option.some.inj hc, ← hw, if_pos hp]
  simp

theorem lineL_len (k : Nat) (l : List Tok) : (lineL k l).length ≤ l.length + 1 := by
  unfold lineL; split <;> simp

theorem textGo_ok {src : ByteArray} {k : Nat} {l : List Tok} : ∀ (m i : Nat) (out : List Int), k < i → (textGo src k l m i out).err.isOk = true →
    k < (textGo src k l m i out).pos ∧ (textGo src k l m i out).pos ≤ src.size ∧ (textGo src k l m i out).list.length = l.length + 1
  | 0, i, out, _, h => by simp [textGo, SErr.isOk] at h
  | m + 1, i, out, hi, h => by
    unfold textGo at h ⊢
    split at h
    · simp [SErr.isOk] at h
    rename_i h1
    rw [if_neg h1]
    split at h
    · rename_i h2
      rw [if_pos h2]
      split at h
      · simp [SErr.isOk] at h
      · rename_i h3
        rw [if_neg h3]
        refine ⟨by simp only; omega, by simp only; omega, by simp⟩
    rename_i h2
    rw [if_neg h2]
    split at h
    · rename_i h3
      rw [if_pos h3]
      split at h
      · rename_i h4
        rw [if_pos h4]
        exact textGo_ok m _ _ (by omega) h
      · simp [SErr.isOk] at h
    rename_i h3
    rw [if_neg h3]
    split at h
    · simp [SErr.isOk] at h
    rename_i h4
    rw [if_neg h4]
    exact textGo_ok m _ _ (by omega) h

theorem markOf_size (s : ByteArray) : (markOf s).size ≤ 2 ∧ (markOf s).size ≤ s.size ∧ (markOf s ≠ (⟨#[]⟩ : ByteArray) → 1 ≤ (markOf s).size) := by
  unfold markOf
  split
  · have := bsub_size (s := s) (l := 0) (r := 2) (by omega); omega
  · split
    · have := bsub_size (s := s) (l := 0) (r := 1) (by omega); omega
    · exact ⟨by decide, by simp, fun h => (h rfl).elim⟩

theorem nextS_ok {src : ByteArray} {k : Nat} {l : List Tok} (hk : k < src.size) (h : (nextS src k l).err.isOk = true) :
    k < (nextS src k l).pos ∧ (nextS src k l).pos ≤ src.size ∧ (nextS src k l).list.length ≤ l.length + 1 := by
  unfold nextS at h ⊢
  split at h
  · rename_i h1; rw [if_pos h1]; exact ⟨by simp only; omega, by simp only; omega, by simp⟩
  rename_i h1; rw [if_neg h1]
  split at h
  · rename_i h2; rw [if_pos h2]; exact ⟨by simp only; omega, by simp only; omega, lineL_len k l⟩
  rename_i h2; rw [if_neg h2]
  split at h
  · rename_i h3; rw [if_pos h3]
    have := runN_le (p := noLine) (Nat.le_of_lt hk)
    have := runN_pos (p := noLine) hk (by unfold noLine; rw [decide_eq_true_eq]; exact h2)
    exact ⟨by simp only; omega, by simp only; omega, by simp⟩
  rename_i h3; rw [if_neg h3]
  split at h
  · rename_i h4; rw [if_pos h4]
    have := runN_le (p := alnumN) (Nat.le_of_lt hk)
    have := runN_pos (p := alnumN) hk (by unfold alnumN; rw [h4]; rfl)
    unfold nameS at h ⊢
    split at h
    · simp [SErr.isOk] at h
    · rename_i h5; rw [if_neg h5]; exact ⟨by simp only; omega, by simp only; omega, by simp⟩
  rename_i h4; rw [if_neg h4]
  split at h
  · rename_i h5; rw [if_pos h5]
    have := runN_le (p := digitN) (Nat.le_of_lt hk)
    have := runN_pos (p := digitN) hk h5
    unfold numberS at h ⊢
    split at h
    · simp [SErr.isOk] at h
    rename_i h6; rw [if_neg h6]
    split at h
    · simp [SErr.isOk] at h
    rename_i h7; rw [if_neg h7]
    split at h
    · simp [SErr.isOk] at h
    rename_i h8; rw [if_neg h8]
    exact ⟨by simp only; omega, by simp only; omega, by simp⟩
  rename_i h5; rw [if_neg h5]
  split at h
  · rename_i h6; rw [if_pos h6]
    have := textGo_ok _ _ _ (Nat.lt_succ_self k) h
    exact ⟨this.1, this.2.1, Nat.le_of_eq this.2.2⟩
  rename_i h6; rw [if_neg h6]
  split at h
  · simp [SErr.isOk] at h
  rename_i h7; rw [if_neg h7]
  have hm := markOf_size (rest src k)
  have hr := rest_size (Nat.le_of_lt hk)
  have := hm.2.2 h7
  exact ⟨by simp only; omega, by simp only; omega, by simp⟩

def allGo (src : ByteArray) : Nat → Nat → List Tok → Out
  | 0, k, l => ⟨.ok, k, l⟩
  | m + 1, k, l => if src.size ≤ k then ⟨.ok, k, lineL k l ++ [⟨6, (⟨#[]⟩ : ByteArray), 0, k⟩]⟩ else if (nextS src k l).err.isOk then allGo src m (nextS src k l).pos (nextS src k l).list else nextS src k l

def allS (src : ByteArray) : Out := allGo src (src.size + 1) 0 []

theorem val_ok {e : SErr} (h : e.isOk = true) : e = .ok := by cases e <;> simp [SErr.isOk] at h; rfl

theorem all_w {s : Nat} {src : ByteArray} {h : Heap} {Q : ARes → Prop} (hs : Sc h s src 0 []) (hz : src.size ≤ 20000)
    (hq : ∀ h', Sc h' s src (allS src).pos (allS src).list → Fr s h h' → Q (.ret (allS src).err.val h')) : WCall Tryd.prog G X 15 [.pointer (some ⟨s, 0, none⟩)] h Q := by
  refine WCall.walk hX Tryd.func15 rfl rfl Tryd.ntmps15 rfl ?_
  repeat' (first | (apply WS.move; (· rfl); (· rfl); (· (first | rfl | assumption))) | (apply WS.assign; (· rfl); (· rfl); (· (first | rfl | assumption))) | (apply WS.uw; (· rfl); (· rfl)) | (apply WS.uw'; (· rfl)) | (apply WS.nilCheck; (· rfl); (· rfl); (· (first | rfl | assumption))) | (apply WS.fieldAddr; (· rfl); (· rfl); (· (first | rfl | assumption)); (· exact offs_at rfl rfl)) | (apply WS.lenS; (· rfl); (· rfl); (· (first | rfl | assumption)); (· rfl)) | (apply WS.lenL; (· rfl); (· rfl); (· (first | rfl | assumption)); (· rfl)) | (apply WS.loadS; (· rfl); (· rfl); (· (first | rfl | assumption)); (· rfl); (· (repeat (first | assumption | exact obj_new | exact obj_put | (refine obj_old (by (first | omega | (simp only [Heap.alloc_next, Heap.put_next]; omega))) ?_) | (refine obj_else (by (first | omega | (simp only [Heap.alloc_next, Heap.put_next]; omega))) ?_) | (apply Gr.at; (· assumption); (· first | omega | (simp only [Heap.alloc_next, Heap.put_next] at *; omega)))))); (· rfl)) | (apply WS.loadG; (· rfl); (· rfl); (· (first | rfl | assumption)); (· rfl); (· exact sz_at rfl); (· (repeat (first | assumption | exact obj_new | exact obj_put | (refine obj_old (by (first | omega | (simp only [Heap.alloc_next, Heap.put_next]; omega))) ?_) | (refine obj_else (by (first | omega | (simp only [Heap.alloc_next, Heap.put_next]; omega))) ?_) | (apply Gr.at; (· assumption); (· first | omega | (simp only [Heap.alloc_next, Heap.put_next] at *; omega)))))); (· (first | (exact Nat.le_of_ble_eq_true rfl) | (simp; done) | omega)); (· rfl)) | refine WR.cons ?_ | refine WC.seq hX ?_ | refine WC.region hX ?_ | refine WC.skip ?_ | refine WC.ret ?_ | refine WC.exit ?_ | refine WC.block hX ?_ | (apply WC.condT hX; (· (first | rfl | assumption))) | (apply WC.condF hX; (· (first | rfl | assumption))) | (apply WC.condB hX; (· (first | rfl | assumption))) | refine WR.nil ?_ | (apply WD.pure; (· rfl)) | (apply WD.read; (· rfl)) | (apply WD.alloc; (· rfl)) | (apply WD.heavy hX; (· rfl); (· (repeat (first | exact trivial | (apply ClearS.keep) | (apply ClearS.ask; (· first | exact trivial | (repeat (first | assumption | exact obj_new | exact obj_put | (refine obj_old (by (first | omega | (simp only [Heap.alloc_next, Heap.put_next]; omega))) ?_) | (refine obj_else (by (first | omega | (simp only [Heap.alloc_next, Heap.put_next]; omega))) ?_) | (apply Gr.at; (· assumption); (· first | omega | (simp only [Heap.alloc_next, Heap.put_next] at *; omega))))))))))) | (apply WD.nil; (· (repeat (first | exact trivial | (apply ClearS.keep) | (apply ClearS.ask; (· first | exact trivial | (repeat (first | assumption | exact obj_new | exact obj_put | (refine obj_old (by (first | omega | (simp only [Heap.alloc_next, Heap.put_next]; omega))) ?_) | (refine obj_else (by (first | omega | (simp only [Heap.alloc_next, Heap.put_next]; omega))) ?_) | (apply Gr.at; (· assumption); (· first | omega | (simp only [Heap.alloc_next, Heap.put_next] at *; omega))))))))))) | refine exit_here ?_ | refine exit_up rfl ?_ | (refine WC.drawn (id := 1) hX (l := [⟨0, .pure, 0⟩, ⟨1, .pure, 1⟩, ⟨2, .pure, 3⟩, ⟨3, .read, 7⟩, ⟨4, .pure, 0⟩, ⟨5, .pure, 16⟩, ⟨6, .pure, 48⟩, ⟨7, .read, 112⟩, ⟨8, .read, 240⟩, ⟨9, .pure, 511⟩]) (by decide +kernel) ?_) | (apply WS.neI; (· rfl); (· rfl); (· (first | rfl | assumption)); (· (first | rfl | assumption))) | (apply WS.ltI; (· rfl); (· rfl); (· (first | rfl | assumption)); (· (first | rfl | assumption))) | (apply WS.neS; (· rfl); (· rfl); (· (first | rfl | assumption)); (· (first | rfl | assumption))) | (apply WS.neG; (· rfl); (· rfl); (· (first | rfl | assumption)); (· (first | rfl | assumption)); (· rfl); (· rfl)) | (((intro hh; try (exfalso; first | omega | (exact absurd hh (by assumption)) | (exact absurd (by assumption) hh) | (exact Bool.noConfusion hh) | (simp at hh; done))))))
  refine WC.loopInv hX (α := Nat × Nat × List Tok) (m := fun a => a.1) (Inv := fun a e h' => e 0 = some (.pointer (some ⟨s, 0, none⟩)) ∧ Sc h' s src a.2.1 a.2.2 ∧ Fr s h h' ∧ a.2.1 ≤ src.size ∧ a.2.2.length ≤ a.2.1 ∧ src.size + 1 ≤ a.1 + a.2.1 ∧ allGo src a.1 a.2.1 a.2.2 = allS src)
    (src.size + 1, 0, []) ⟨rfl, hs, Fr.refl _ _, by simp, by simp, by simp, rfl⟩ ?_
  rintro ⟨m, k, l⟩ env h1 ih ⟨e0, hs1, fr1, hk, hlk, hm, heq⟩
  simp only at hs1 hk hlk hm heq
  have hs1' := hs1
  obtain ⟨hlt1, b1, n1, es1, ho1, ht1⟩ := hs1
  obtain ⟨m, rfl⟩ : ∃ m', m = m' + 1 := ⟨m - 1, by omega⟩
  unfold allGo at heq
  repeat' (first | (apply WS.move; (· rfl); (· rfl); (· (first | rfl | assumption))) | (apply WS.assign; (· rfl); (· rfl); (· (first | rfl | assumption))) | (apply WS.uw; (· rfl); (· rfl)) | (apply WS.uw'; (· rfl)) | (apply WS.nilCheck; (· rfl); (· rfl); (· (first | rfl | assumption))) | (apply WS.fieldAddr; (· rfl); (· rfl); (· (first | rfl | assumption)); (· exact offs_at rfl rfl)) | (apply WS.lenS; (· rfl); (· rfl); (· (first | rfl | assumption)); (· rfl)) | (apply WS.lenL; (· rfl); (· rfl); (· (first | rfl | assumption)); (· rfl)) | (apply WS.loadS; (· rfl); (· rfl); (· (first | rfl | assumption)); (· rfl); (· (repeat (first | assumption | exact obj_new | exact obj_put | (refine obj_old (by (first | omega | (simp only [Heap.alloc_next, Heap.put_next]; omega))) ?_) | (refine obj_else (by (first | omega | (simp only [Heap.alloc_next, Heap.put_next]; omega))) ?_) | (apply Gr.at; (· assumption); (· first | omega | (simp only [Heap.alloc_next, Heap.put_next] at *; omega)))))); (· rfl)) | (apply WS.loadG; (· rfl); (· rfl); (· (first | rfl | assumption)); (· rfl); (· exact sz_at rfl); (· (repeat (first | assumption | exact obj_new | exact obj_put | (refine obj_old (by (first | omega | (simp only [Heap.alloc_next, Heap.put_next]; omega))) ?_) | (refine obj_else (by (first | omega | (simp only [Heap.alloc_next, Heap.put_next]; omega))) ?_) | (apply Gr.at; (· assumption); (· first | omega | (simp only [Heap.alloc_next, Heap.put_next] at *; omega)))))); (· (first | (exact Nat.le_of_ble_eq_true rfl) | (simp; done) | omega)); (· rfl)) | refine WR.cons ?_ | refine WC.seq hX ?_ | refine WC.region hX ?_ | refine WC.skip ?_ | refine WC.ret ?_ | refine WC.exit ?_ | refine WC.block hX ?_ | (apply WC.condT hX; (· (first | rfl | assumption))) | (apply WC.condF hX; (· (first | rfl | assumption))) | (apply WC.condB hX; (· (first | rfl | assumption))) | refine WR.nil ?_ | (apply WD.pure; (· rfl)) | (apply WD.read; (· rfl)) | (apply WD.alloc; (· rfl)) | (apply WD.heavy hX; (· rfl); (· (repeat (first | exact trivial | (apply ClearS.keep) | (apply ClearS.ask; (· first | exact trivial | (repeat (first | assumption | exact obj_new | exact obj_put | (refine obj_old (by (first | omega | (simp only [Heap.alloc_next, Heap.put_next]; omega))) ?_) | (refine obj_else (by (first | omega | (simp only [Heap.alloc_next, Heap.put_next]; omega))) ?_) | (apply Gr.at; (· assumption); (· first | omega | (simp only [Heap.alloc_next, Heap.put_next] at *; omega))))))))))) | (apply WD.nil; (· (repeat (first | exact trivial | (apply ClearS.keep) | (apply ClearS.ask; (· first | exact trivial | (repeat (first | assumption | exact obj_new | exact obj_put | (refine obj_old (by (first | omega | (simp only [Heap.alloc_next, Heap.put_next]; omega))) ?_) | (refine obj_else (by (first | omega | (simp only [Heap.alloc_next, Heap.put_next]; omega))) ?_) | (apply Gr.at; (· assumption); (· first | omega | (simp only [Heap.alloc_next, Heap.put_next] at *; omega))))))))))) | refine exit_here ?_ | refine exit_up rfl ?_ | (refine WC.drawn (id := 1) hX (l := [⟨0, .pure, 0⟩, ⟨1, .pure, 1⟩, ⟨2, .pure, 3⟩, ⟨3, .read, 7⟩, ⟨4, .pure, 0⟩, ⟨5, .pure, 16⟩, ⟨6, .pure, 48⟩, ⟨7, .read, 112⟩, ⟨8, .read, 240⟩, ⟨9, .pure, 511⟩]) (by decide +kernel) ?_) | (apply WS.neI; (· rfl); (· rfl); (· (first | rfl | assumption)); (· (first | rfl | assumption))) | (apply WS.ltI; (· rfl); (· rfl); (· (first | rfl | assumption)); (· (first | rfl | assumption))) | (apply WS.neS; (· rfl); (· rfl); (· (first | rfl | assumption)); (· (first | rfl | assumption))) | (apply WS.neG; (· rfl); (· rfl); (· (first | rfl | assumption)); (· (first | rfl | assumption)); (· rfl); (· rfl)) | (((intro hh; try (exfalso; first | omega | (exact absurd hh (by assumption)) | (exact absurd (by assumption) hh) | (exact Bool.noConfusion hh) | (simp at hh; done))))))
  · apply WS.callF; (· rfl); (· rfl); (· rfl); (· exact en18)
    rw [if_neg (by omega)] at heq
    refine next_w hs1' (by omega) (by omega) (by omega) fun h2 hs2 fr2 => ?_
    cases hok : (nextS src k l).err with
    | ok =>
      have hok' : (nextS src k l).err.isOk = true := by rw [hok]; rfl
      have hnx := nextS_ok (by omega) hok'
      rw [if_pos hok'] at heq
      simp only [SErr.val]
      repeat' (first | (apply WS.move; (· rfl); (· rfl); (· (first | rfl | assumption))) | (apply WS.assign; (· rfl); (· rfl); (· (first | rfl | assumption))) | (apply WS.uw; (· rfl); (· rfl)) | (apply WS.uw'; (· rfl)) | (apply WS.nilCheck; (· rfl); (· rfl); (· (first | rfl | assumption))) | (apply WS.fieldAddr; (· rfl); (· rfl); (· (first | rfl | assumption)); (· exact offs_at rfl rfl)) | (apply WS.lenS; (· rfl); (· rfl); (· (first | rfl | assumption)); (· rfl)) | (apply WS.lenL; (· rfl); (· rfl); (· (first | rfl | assumption)); (· rfl)) | (apply WS.loadS; (· rfl); (· rfl); (· (first | rfl | assumption)); (· rfl); (· (repeat (first | assumption | exact obj_new | exact obj_put | (refine obj_old (by (first | omega | (simp only [Heap.alloc_next, Heap.put_next]; omega))) ?_) | (refine obj_else (by (first | omega | (simp only [Heap.alloc_next, Heap.put_next]; omega))) ?_) | (apply Gr.at; (· assumption); (· first | omega | (simp only [Heap.alloc_next, Heap.put_next] at *; omega)))))); (· rfl)) | (apply WS.loadG; (· rfl); (· rfl); (· (first | rfl | assumption)); (· rfl); (· exact sz_at rfl); (· (repeat (first | assumption | exact obj_new | exact obj_put | (refine obj_old (by (first | omega | (simp only [Heap.alloc_next, Heap.put_next]; omega))) ?_) | (refine obj_else (by (first | omega | (simp only [Heap.alloc_next, Heap.put_next]; omega))) ?_) | (apply Gr.at; (· assumption); (· first | omega | (simp only [Heap.alloc_next, Heap.put_next] at *; omega)))))); (· (first | (exact Nat.le_of_ble_eq_true rfl) | (simp; done) | omega)); (· rfl)) | refine WR.cons ?_ | refine WC.seq hX ?_ | refine WC.region hX ?_ | refine WC.skip ?_ | refine WC.ret ?_ | refine WC.exit ?_ | refine WC.block hX ?_ | (apply WC.condT hX; (· (first | rfl | assumption))) | (apply WC.condF hX; (· (first | rfl | assumption))) | (apply WC.condB hX; (· (first | rfl | assumption))) | refine WR.nil ?_ | (apply WD.pure; (· rfl)) | (apply WD.read; (· rfl)) | (apply WD.alloc; (· rfl)) | (apply WD.heavy hX; (· rfl); (· (repeat (first | exact trivial | (apply ClearS.keep) | (apply ClearS.ask; (· first | exact trivial | (repeat (first | assumption | exact obj_new | exact obj_put | (refine obj_old (by (first | omega | (simp only [Heap.alloc_next, Heap.put_next]; omega))) ?_) | (refine obj_else (by (first | omega | (simp only [Heap.alloc_next, Heap.put_next]; omega))) ?_) | (apply Gr.at; (· assumption); (· first | omega | (simp only [Heap.alloc_next, Heap.put_next] at *; omega))))))))))) | (apply WD.nil; (· (repeat (first | exact trivial | (apply ClearS.keep) | (apply ClearS.ask; (· first | exact trivial | (repeat (first | assumption | exact obj_new | exact obj_put | (refine obj_old (by (first | omega | (simp only [Heap.alloc_next, Heap.put_next]; omega))) ?_) | (refine obj_else (by (first | omega | (simp only [Heap.alloc_next, Heap.put_next]; omega))) ?_) | (apply Gr.at; (· assumption); (· first | omega | (simp only [Heap.alloc_next, Heap.put_next] at *; omega))))))))))) | refine exit_here ?_ | refine exit_up rfl ?_ | (refine WC.drawn (id := 1) hX (l := [⟨0, .pure, 0⟩, ⟨1, .pure, 1⟩, ⟨2, .pure, 3⟩, ⟨3, .read, 7⟩, ⟨4, .pure, 0⟩, ⟨5, .pure, 16⟩, ⟨6, .pure, 48⟩, ⟨7, .read, 112⟩, ⟨8, .read, 240⟩, ⟨9, .pure, 511⟩]) (by decide +kernel) ?_) | (apply WS.neI; (· rfl); (· rfl); (· (first | rfl | assumption)); (· (first | rfl | assumption))) | (apply WS.ltI; (· rfl); (· rfl); (· (first | rfl | assumption)); (· (first | rfl | assumption))) | (apply WS.neS; (· rfl); (· rfl); (· (first | rfl | assumption)); (· (first | rfl | assumption))) | (apply WS.neG; (· rfl); (· rfl); (· (first | rfl | assumption)); (· (first | rfl | assumption)); (· rfl); (· rfl)) | (((intro hh; try (exfalso; first | omega | (exact absurd hh (by assumption)) | (exact absurd (by assumption) hh) | (exact Bool.noConfusion hh) | (simp at hh; done))))))
      exact ih (m, (nextS src k l).pos, (nextS src k l).list) _ _ (by simp) ⟨e0, hs2, fr1.trans fr2, hnx.2.1, by simp only; omega, by simp only; omega, heq⟩
    | stuck p =>
      rw [if_neg (by rw [hok]; simp [SErr.isOk])] at heq
      rw [← heq, hok] at hq
      simp only [SErr.val]
      repeat' (first | (apply WS.move; (· rfl); (· rfl); (· (first | rfl | assumption))) | (apply WS.assign; (· rfl); (· rfl); (· (first | rfl | assumption))) | (apply WS.uw; (· rfl); (· rfl)) | (apply WS.uw'; (· rfl)) | (apply WS.nilCheck; (· rfl); (· rfl); (· (first | rfl | assumption))) | (apply WS.fieldAddr; (· rfl); (· rfl); (· (first | rfl | assumption)); (· exact offs_at rfl rfl)) | (apply WS.lenS; (· rfl); (· rfl); (· (first | rfl | assumption)); (· rfl)) | (apply WS.lenL; (· rfl); (· rfl); (· (first | rfl | assumption)); (· rfl)) | (apply WS.loadS; (· rfl); (· rfl); (· (first | rfl | assumption)); (· rfl); (· (repeat (first | assumption | exact obj_new | exact obj_put | (refine obj_old (by (first | omega | (simp only [Heap.alloc_next, Heap.put_next]; omega))) ?_) | (refine obj_else (by (first | omega | (simp only [Heap.alloc_next, Heap.put_next]; omega))) ?_) | (apply Gr.at; (· assumption); (· first | omega | (simp only [Heap.alloc_next, Heap.put_next] at *; omega)))))); (· rfl)) | (apply WS.loadG; (· rfl); (· rfl); (· (first | rfl | assumption)); (· rfl); (· exact sz_at rfl); (· (repeat (first | assumption | exact obj_new | exact obj_put | (refine obj_old (by (first | omega | (simp only [Heap.alloc_next, Heap.put_next]; omega))) ?_) | (refine obj_else (by (first | omega | (simp only [Heap.alloc_next, Heap.put_next]; omega))) ?_) | (apply Gr.at; (· assumption); (· first | omega | (simp only [Heap.alloc_next, Heap.put_next] at *; omega)))))); (· (first | (exact Nat.le_of_ble_eq_true rfl) | (simp; done) | omega)); (· rfl)) | refine WR.cons ?_ | refine WC.seq hX ?_ | refine WC.region hX ?_ | refine WC.skip ?_ | refine WC.ret ?_ | refine WC.exit ?_ | refine WC.block hX ?_ | (apply WC.condT hX; (· (first | rfl | assumption))) | (apply WC.condF hX; (· (first | rfl | assumption))) | (apply WC.condB hX; (· (first | rfl | assumption))) | refine WR.nil ?_ | (apply WD.pure; (· rfl)) | (apply WD.read; (· rfl)) | (apply WD.alloc; (· rfl)) | (apply WD.heavy hX; (· rfl); (· (repeat (first | exact trivial | (apply ClearS.keep) | (apply ClearS.ask; (· first | exact trivial | (repeat (first | assumption | exact obj_new | exact obj_put | (refine obj_old (by (first | omega | (simp only [Heap.alloc_next, Heap.put_next]; omega))) ?_) | (refine obj_else (by (first | omega | (simp only [Heap.alloc_next, Heap.put_next]; omega))) ?_) | (apply Gr.at; (· assumption); (· first | omega | (simp only [Heap.alloc_next, Heap.put_next] at *; omega))))))))))) | (apply WD.nil; (· (repeat (first | exact trivial | (apply ClearS.keep) | (apply ClearS.ask; (· first | exact trivial | (repeat (first | assumption | exact obj_new | exact obj_put | (refine obj_old (by (first | omega | (simp only [Heap.alloc_next, Heap.put_next]; omega))) ?_) | (refine obj_else (by (first | omega | (simp only [Heap.alloc_next, Heap.put_next]; omega))) ?_) | (apply Gr.at; (· assumption); (· first | omega | (simp only [Heap.alloc_next, Heap.put_next] at *; omega))))))))))) | refine exit_here ?_ | refine exit_up rfl ?_ | (refine WC.drawn (id := 1) hX (l := [⟨0, .pure, 0⟩, ⟨1, .pure, 1⟩, ⟨2, .pure, 3⟩, ⟨3, .read, 7⟩, ⟨4, .pure, 0⟩, ⟨5, .pure, 16⟩, ⟨6, .pure, 48⟩, ⟨7, .read, 112⟩, ⟨8, .read, 240⟩, ⟨9, .pure, 511⟩]) (by decide +kernel) ?_) | (apply WS.neI; (· rfl); (· rfl); (· (first | rfl | assumption)); (· (first | rfl | assumption))) | (apply WS.ltI; (· rfl); (· rfl); (· (first | rfl | assumption)); (· (first | rfl | assumption))) | (apply WS.neS; (· rfl); (· rfl); (· (first | rfl | assumption)); (· (first | rfl | assumption))) | (apply WS.neG; (· rfl); (· rfl); (· (first | rfl | assumption)); (· (first | rfl | assumption)); (· rfl); (· rfl)) | (((intro hh; try (exfalso; first | omega | (exact absurd hh (by assumption)) | (exact absurd (by assumption) hh) | (exact Bool.noConfusion hh) | (simp at hh; done))))))
      exact ⟨_, rfl, hq _ hs2 (fr1.trans fr2)⟩
    | long w p =>
      rw [if_neg (by rw [hok]; simp [SErr.isOk])] at heq
      rw [← heq, hok] at hq
      simp only [SErr.val]
      repeat' (first | (apply WS.move; (· rfl); (· rfl); (· (first | rfl | assumption))) | (apply WS.assign; (· rfl); (· rfl); (· (first | rfl | assumption))) | (apply WS.uw; (· rfl); (· rfl)) | (apply WS.uw'; (· rfl)) | (apply WS.nilCheck; (· rfl); (· rfl); (· (first | rfl | assumption))) | (apply WS.fieldAddr; (· rfl); (· rfl); (· (first | rfl | assumption)); (· exact offs_at rfl rfl)) | (apply WS.lenS; (· rfl); (· rfl); (· (first | rfl | assumption)); (· rfl)) | (apply WS.lenL; (· rfl); (· rfl); (· (first | rfl | assumption)); (· rfl)) | (apply WS.loadS; (· rfl); (· rfl); (· (first | rfl | assumption)); (· rfl); (· (repeat (first | assumption | exact obj_new | exact obj_put | (refine obj_old (by (first | omega | (simp only [Heap.alloc_next, Heap.put_next]; omega))) ?_) | (refine obj_else (by (first | omega | (simp only [Heap.alloc_next, Heap.put_next]; omega))) ?_) | (apply Gr.at; (· assumption); (· first | omega | (simp only [Heap.alloc_next, Heap.put_next] at *; omega)))))); (· rfl)) | (apply WS.loadG; (· rfl); (· rfl); (· (first | rfl | assumption)); (· rfl); (· exact sz_at rfl); (· (repeat (first | assumption | exact obj_new | exact obj_put | (refine obj_old (by (first | omega | (simp only [Heap.alloc_next, Heap.put_next]; omega))) ?_) | (refine obj_else (by (first | omega | (simp only [Heap.alloc_next, Heap.put_next]; omega))) ?_) | (apply Gr.at; (· assumption); (· first | omega | (simp only [Heap.alloc_next, Heap.put_next] at *; omega)))))); (· (first | (exact Nat.le_of_ble_eq_true rfl) | (simp; done) | omega)); (· rfl)) | refine WR.cons ?_ | refine WC.seq hX ?_ | refine WC.region hX ?_ | refine WC.skip ?_ | refine WC.ret ?_ | refine WC.exit ?_ | refine WC.block hX ?_ | (apply WC.condT hX; (· (first | rfl | assumption))) | (apply WC.condF hX; (· (first | rfl | assumption))) | (apply WC.condB hX; (· (first | rfl | assumption))) | refine WR.nil ?_ | (apply WD.pure; (· rfl)) | (apply WD.read; (· rfl)) | (apply WD.alloc; (· rfl)) | (apply WD.heavy hX; (· rfl); (· (repeat (first | exact trivial | (apply ClearS.keep) | (apply ClearS.ask; (· first | exact trivial | (repeat (first | assumption | exact obj_new | exact obj_put | (refine obj_old (by (first | omega | (simp only [Heap.alloc_next, Heap.put_next]; omega))) ?_) | (refine obj_else (by (first | omega | (simp only [Heap.alloc_next, Heap.put_next]; omega))) ?_) | (apply Gr.at; (· assumption); (· first | omega | (simp only [Heap.alloc_next, Heap.put_next] at *; omega))))))))))) | (apply WD.nil; (· (repeat (first | exact trivial | (apply ClearS.keep) | (apply ClearS.ask; (· first | exact trivial | (repeat (first | assumption | exact obj_new | exact obj_put | (refine obj_old (by (first | omega | (simp only [Heap.alloc_next, Heap.put_next]; omega))) ?_) | (refine obj_else (by (first | omega | (simp only [Heap.alloc_next, Heap.put_next]; omega))) ?_) | (apply Gr.at; (· assumption); (· first | omega | (simp only [Heap.alloc_next, Heap.put_next] at *; omega))))))))))) | refine exit_here ?_ | refine exit_up rfl ?_ | (refine WC.drawn (id := 1) hX (l := [⟨0, .pure, 0⟩, ⟨1, .pure, 1⟩, ⟨2, .pure, 3⟩, ⟨3, .read, 7⟩, ⟨4, .pure, 0⟩, ⟨5, .pure, 16⟩, ⟨6, .pure, 48⟩, ⟨7, .read, 112⟩, ⟨8, .read, 240⟩, ⟨9, .pure, 511⟩]) (by decide +kernel) ?_) | (apply WS.neI; (· rfl); (· rfl); (· (first | rfl | assumption)); (· (first | rfl | assumption))) | (apply WS.ltI; (· rfl); (· rfl); (· (first | rfl | assumption)); (· (first | rfl | assumption))) | (apply WS.neS; (· rfl); (· rfl); (· (first | rfl | assumption)); (· (first | rfl | assumption))) | (apply WS.neG; (· rfl); (· rfl); (· (first | rfl | assumption)); (· (first | rfl | assumption)); (· rfl); (· rfl)) | (((intro hh; try (exfalso; first | omega | (exact absurd hh (by assumption)) | (exact absurd (by assumption) hh) | (exact Bool.noConfusion hh) | (simp at hh; done))))))
      exact ⟨_, rfl, hq _ hs2 (fr1.trans fr2)⟩
  · apply WS.callF; (· rfl); (· rfl); (· rfl); (· exact en19)
    rw [if_pos (by omega)] at heq
    rw [← heq] at hq
    refine line_w hs1' (by omega) (by omega) fun h2 hs2 fr2 => ?_
    repeat' (first | (apply WS.move; (· rfl); (· rfl); (· (first | rfl | assumption))) | (apply WS.assign; (· rfl); (· rfl); (· (first | rfl | assumption))) | (apply WS.uw; (· rfl); (· rfl)) | (apply WS.uw'; (· rfl)) | (apply WS.nilCheck; (· rfl); (· rfl); (· (first | rfl | assumption))) | (apply WS.fieldAddr; (· rfl); (· rfl); (· (first | rfl | assumption)); (· exact offs_at rfl rfl)) | (apply WS.lenS; (· rfl); (· rfl); (· (first | rfl | assumption)); (· rfl)) | (apply WS.lenL; (· rfl); (· rfl); (· (first | rfl | assumption)); (· rfl)) | (apply WS.loadS; (· rfl); (· rfl); (· (first | rfl | assumption)); (· rfl); (· (repeat (first | assumption | exact obj_new | exact obj_put | (refine obj_old (by (first | omega | (simp only [Heap.alloc_next, Heap.put_next]; omega))) ?_) | (refine obj_else (by (first | omega | (simp only [Heap.alloc_next, Heap.put_next]; omega))) ?_) | (apply Gr.at; (· assumption); (· first | omega | (simp only [Heap.alloc_next, Heap.put_next] at *; omega)))))); (· rfl)) | (apply WS.loadG; (· rfl); (· rfl); (· (first | rfl | assumption)); (· rfl); (· exact sz_at rfl); (· (repeat (first | assumption | exact obj_new | exact obj_put | (refine obj_old (by (first | omega | (simp only [Heap.alloc_next, Heap.put_next]; omega))) ?_) | (refine obj_else (by (first | omega | (simp only [Heap.alloc_next, Heap.put_next]; omega))) ?_) | (apply Gr.at; (· assumption); (· first | omega | (simp only [Heap.alloc_next, Heap.put_next] at *; omega)))))); (· (first | (exact Nat.le_of_ble_eq_true rfl) | (simp; done) | omega)); (· rfl)) | refine WR.cons ?_ | refine WC.seq hX ?_ | refine WC.region hX ?_ | refine WC.skip ?_ | refine WC.ret ?_ | refine WC.exit ?_ | refine WC.block hX ?_ | (apply WC.condT hX; (· (first | rfl | assumption))) | (apply WC.condF hX; (· (first | rfl | assumption))) | (apply WC.condB hX; (· (first | rfl | assumption))) | refine WR.nil ?_ | (apply WD.pure; (· rfl)) | (apply WD.read; (· rfl)) | (apply WD.alloc; (· rfl)) | (apply WD.heavy hX; (· rfl); (· (repeat (first | exact trivial | (apply ClearS.keep) | (apply ClearS.ask; (· first | exact trivial | (repeat (first | assumption | exact obj_new | exact obj_put | (refine obj_old (by (first | omega | (simp only [Heap.alloc_next, Heap.put_next]; omega))) ?_) | (refine obj_else (by (first | omega | (simp only [Heap.alloc_next, Heap.put_next]; omega))) ?_) | (apply Gr.at; (· assumption); (· first | omega | (simp only [Heap.alloc_next, Heap.put_next] at *; omega))))))))))) | (apply WD.nil; (· (repeat (first | exact trivial | (apply ClearS.keep) | (apply ClearS.ask; (· first | exact trivial | (repeat (first | assumption | exact obj_new | exact obj_put | (refine obj_old (by (first | omega | (simp only [Heap.alloc_next, Heap.put_next]; omega))) ?_) | (refine obj_else (by (first | omega | (simp only [Heap.alloc_next, Heap.put_next]; omega))) ?_) | (apply Gr.at; (· assumption); (· first | omega | (simp only [Heap.alloc_next, Heap.put_next] at *; omega))))))))))) | refine exit_here ?_ | refine exit_up rfl ?_ | (refine WC.drawn (id := 1) hX (l := [⟨0, .pure, 0⟩, ⟨1, .pure, 1⟩, ⟨2, .pure, 3⟩, ⟨3, .read, 7⟩, ⟨4, .pure, 0⟩, ⟨5, .pure, 16⟩, ⟨6, .pure, 48⟩, ⟨7, .read, 112⟩, ⟨8, .read, 240⟩, ⟨9, .pure, 511⟩]) (by decide +kernel) ?_) | (apply WS.neI; (· rfl); (· rfl); (· (first | rfl | assumption)); (· (first | rfl | assumption))) | (apply WS.ltI; (· rfl); (· rfl); (· (first | rfl | assumption)); (· (first | rfl | assumption))) | (apply WS.neS; (· rfl); (· rfl); (· (first | rfl | assumption)); (· (first | rfl | assumption))) | (apply WS.neG; (· rfl); (· rfl); (· (first | rfl | assumption)); (· (first | rfl | assumption)); (· rfl); (· rfl)) | (((intro hh; try (exfalso; first | omega | (exact absurd hh (by assumption)) | (exact absurd (by assumption) hh) | (exact Bool.noConfusion hh) | (simp at hh; done))))))
    apply WS.callF; (· rfl); (· rfl); (· rfl); (· exact en20)
    have := lineL_len k l
    refine add_w (size := 0) hs2 (by omega) (by omega) (by omega) fun h3 hs3 fr3 => ?_
    repeat' (first | (apply WS.move; (· rfl); (· rfl); (· (first | rfl | assumption))) | (apply WS.assign; (· rfl); (· rfl); (· (first | rfl | assumption))) | (apply WS.uw; (· rfl); (· rfl)) | (apply WS.uw'; (· rfl)) | (apply WS.nilCheck; (· rfl); (· rfl); (· (first | rfl | assumption))) | (apply WS.fieldAddr; (· rfl); (· rfl); (· (first | rfl | assumption)); (· exact offs_at rfl rfl)) | (apply WS.lenS; (· rfl); (· rfl); (· (first | rfl | assumption)); (· rfl)) | (apply WS.lenL; (· rfl); (· rfl); (· (first | rfl | assumption)); (· rfl)) | (apply WS.loadS; (· rfl); (· rfl); (· (first | rfl | assumption)); (· rfl); (· (repeat (first | assumption | exact obj_new | exact obj_put | (refine obj_old (by (first | omega | (simp only [Heap.alloc_next, Heap.put_next]; omega))) ?_) | (refine obj_else (by (first | omega | (simp only [Heap.alloc_next, Heap.put_next]; omega))) ?_) | (apply Gr.at; (· assumption); (· first | omega | (simp only [Heap.alloc_next, Heap.put_next] at *; omega)))))); (· rfl)) | (apply WS.loadG; (· rfl); (· rfl); (· (first | rfl | assumption)); (· rfl); (· exact sz_at rfl); (· (repeat (first | assumption | exact obj_new | exact obj_put | (refine obj_old (by (first | omega | (simp only [Heap.alloc_next, Heap.put_next]; omega))) ?_) | (refine obj_else (by (first | omega | (simp only [Heap.alloc_next, Heap.put_next]; omega))) ?_) | (apply Gr.at; (· assumption); (· first | omega | (simp only [Heap.alloc_next, Heap.put_next] at *; omega)))))); (· (first | (exact Nat.le_of_ble_eq_true rfl) | (simp; done) | omega)); (· rfl)) | refine WR.cons ?_ | refine WC.seq hX ?_ | refine WC.region hX ?_ | refine WC.skip ?_ | refine WC.ret ?_ | refine WC.exit ?_ | refine WC.block hX ?_ | (apply WC.condT hX; (· (first | rfl | assumption))) | (apply WC.condF hX; (· (first | rfl | assumption))) | (apply WC.condB hX; (· (first | rfl | assumption))) | refine WR.nil ?_ | (apply WD.pure; (· rfl)) | (apply WD.read; (· rfl)) | (apply WD.alloc; (· rfl)) | (apply WD.heavy hX; (· rfl); (· (repeat (first | exact trivial | (apply ClearS.keep) | (apply ClearS.ask; (· first | exact trivial | (repeat (first | assumption | exact obj_new | exact obj_put | (refine obj_old (by (first | omega | (simp only [Heap.alloc_next, Heap.put_next]; omega))) ?_) | (refine obj_else (by (first | omega | (simp only [Heap.alloc_next, Heap.put_next]; omega))) ?_) | (apply Gr.at; (· assumption); (· first | omega | (simp only [Heap.alloc_next, Heap.put_next] at *; omega))))))))))) | (apply WD.nil; (· (repeat (first | exact trivial | (apply ClearS.keep) | (apply ClearS.ask; (· first | exact trivial | (repeat (first | assumption | exact obj_new | exact obj_put | (refine obj_old (by (first | omega | (simp only [Heap.alloc_next, Heap.put_next]; omega))) ?_) | (refine obj_else (by (first | omega | (simp only [Heap.alloc_next, Heap.put_next]; omega))) ?_) | (apply Gr.at; (· assumption); (· first | omega | (simp only [Heap.alloc_next, Heap.put_next] at *; omega))))))))))) | refine exit_here ?_ | refine exit_up rfl ?_ | (refine WC.drawn (id := 1) hX (l := [⟨0, .pure, 0⟩, ⟨1, .pure, 1⟩, ⟨2, .pure, 3⟩, ⟨3, .read, 7⟩, ⟨4, .pure, 0⟩, ⟨5, .pure, 16⟩, ⟨6, .pure, 48⟩, ⟨7, .read, 112⟩, ⟨8, .read, 240⟩, ⟨9, .pure, 511⟩]) (by decide +kernel) ?_) | (apply WS.neI; (· rfl); (· rfl); (· (first | rfl | assumption)); (· (first | rfl | assumption))) | (apply WS.ltI; (· rfl); (· rfl); (· (first | rfl | assumption)); (· (first | rfl | assumption))) | (apply WS.neS; (· rfl); (· rfl); (· (first | rfl | assumption)); (· (first | rfl | assumption))) | (apply WS.neG; (· rfl); (· rfl); (· (first | rfl | assumption)); (· (first | rfl | assumption)); (· rfl); (· rfl)) | (((intro hh; try (exfalso; first | omega | (exact absurd hh (by assumption)) | (exact absurd (by assumption) hh) | (exact Bool.noConfusion hh) | (simp at hh; done))))))
    exact ⟨_, rfl, hq _ hs3 ((fr1.trans fr2).trans fr3)⟩

end Go.Proofs.ZL
