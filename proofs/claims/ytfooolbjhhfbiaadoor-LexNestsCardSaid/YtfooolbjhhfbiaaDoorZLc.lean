/- the scanner's state, and what adds a token -/
import Derived.Test.YtfooolbjhhfbiaaDoorZLb
open Go Go.Am
namespace Go.Proofs.ZL
set_option maxRecDepth 100000
set_option maxHeartbeats 4000000

structure Tok where
  kind : Int
  text : ByteArray
  num : Int
  pos : Int
  deriving DecidableEq

def Tok.cells (t : Tok) : List Value := [.int .i64 t.kind, .string t.text, .int .i64 t.num, .int .i64 t.pos]
def cellsOf (l : List Tok) : List Value := l.flatMap Tok.cells

theorem cellsOf_length (l : List Tok) : (cellsOf l).length = l.length * 4 := by
  induction l with
  | nil => rfl
  | cons a l ih => simp only [cellsOf, List.flatMap_cons, List.length_append, List.length_cons] at ih ⊢; rw [ih]; simp [Tok.cells]; omega

/-- A slice of tokens. -/
def Toks (h : Heap) (lo : Nat) (b : Option Addr) (n es : Nat) (l : List Tok) : Prop :=
  (b = none ∧ n = 0 ∧ es = 0 ∧ l = []) ∨ ∃ i, b = some ⟨i, 0, none⟩ ∧ lo ≤ i ∧ i < h.next ∧ es = 4 ∧ n = l.length ∧ h.obj i = some (.cells false (cellsOf l))

theorem Toks.len {h : Heap} {lo : Nat} {b : Option Addr} {n es : Nat} {l : List Tok} (ht : Toks h lo b n es l) : n = l.length := by
  rcases ht with ⟨_, rfl, _, rfl⟩ | ⟨i, _, _, _, _, rfl, _⟩ <;> rfl

theorem Toks.at {h : Heap} {lo : Nat} {b : Option Addr} {n es : Nat} {l : List Tok} (ht : Toks h lo b n es l) : SliceAt h b n es 4 (cellsOf l) := by
  rcases ht with ⟨rfl, rfl, rfl, rfl⟩ | ⟨i, rfl, _, _, rfl, rfl, ho⟩
  · exact .inl ⟨rfl, rfl, rfl, rfl⟩
  · exact .inr ⟨i, 0, _, rfl, rfl, ho, by rw [cellsOf_length]; omega, by rw [List.drop_zero, List.take_of_length_le (by rw [cellsOf_length]; omega)]⟩

theorem Toks.mono {h h' : Heap} {lo : Nat} {b : Option Addr} {n es : Nat} {l : List Tok} (ht : Toks h lo b n es l) (hn : h.next ≤ h'.next) (ho : ∀ j, lo ≤ j → j < h.next → h'.obj j = h.obj j) : Toks h' lo b n es l := by
  rcases ht with ⟨rfl, rfl, rfl, rfl⟩ | ⟨i, rfl, h1, h2, rfl, rfl, h3⟩
  · exact .inl ⟨rfl, rfl, rfl, rfl⟩
  · exact .inr ⟨i, rfl, h1, by omega, rfl, rfl, by rw [ho i h1 h2]; exact h3⟩

/-- The scanner. -/
def Sc (h : Heap) (s : Nat) (src : ByteArray) (k : Nat) (l : List Tok) : Prop :=
  s < h.next ∧ ∃ b n es, h.obj s = some (.cells false [.string src, .int .i64 k, .slice b n es]) ∧ Toks h (s + 1) b n es l

/-- What is older than the scanner is as it was. -/
def Fr (s : Nat) (h h' : Heap) : Prop := h.next ≤ h'.next ∧ ∀ j, j < s → h'.obj j = h.obj j

theorem Fr.refl (s : Nat) (h : Heap) : Fr s h h := ⟨Nat.le_refl _, fun _ _ => rfl⟩
theorem Fr.trans {s : Nat} {a b c : Heap} (x : Fr s a b) (y : Fr s b c) : Fr s a c := ⟨Nat.le_trans x.1 y.1, fun j hj => (y.2 j hj).trans (x.2 j hj)⟩

theorem add_w {s : Nat} {src : ByteArray} {k : Nat} {l : List Tok} {kind num : Int} {text : ByteArray} {size : Nat} {h : Heap} {Q : ARes → Prop} (hs : Sc h s src k l) (hl : l.length ≤ 100000) (hk : k ≤ 100000) (hz : size ≤ 100000)
    (hq : ∀ h', Sc h' s src (k + size) (l ++ [⟨kind, text, num, k⟩]) → Fr s h h' → Q (.ret (.tuple #[]) h')) :
    WCall Tryd.prog G X 20 [.pointer (some ⟨s, 0, none⟩), .int .i64 kind, .string text, .int .i64 num, .int .i64 size] h Q := by
  obtain ⟨hlt, b, n, es, ho, ht⟩ := hs
  have hlen := ht.len
  refine WCall.walk hX Tryd.func20 rfl rfl Tryd.ntmps20 rfl ?_
  repeat' (first | (apply WS.move; (· rfl); (· rfl); (· (first | rfl | assumption))) | (apply WS.uw; (· rfl); (· rfl)) | (apply WS.uw'; (· rfl)) | (apply WS.addI; (· rfl); (· rfl); (· (first | rfl | assumption)); (· (first | rfl | assumption)); (· omega)) | (apply WS.addS; (· rfl); (· rfl); (· (first | rfl | assumption)); (· (first | rfl | assumption)); (· (((try simp only [ByteArray.size_append]); omega)))) | (apply WS.addK; (· rfl); (· rfl); (· (first | rfl | assumption)); (· (first | rfl | assumption)); (· (first | (rw [IntKind.wrap_i64]; omega) | (rw [IntKind.wrap_u8]; omega) | (rw [IntKind.wrap_u64]; omega)))) | (apply WS.nilCheck; (· rfl); (· rfl); (· (first | rfl | assumption))) | (apply WS.fieldAddr; (· rfl); (· rfl); (· (first | rfl | assumption)); (· exact offs_at rfl rfl)) | (apply WS.build; (· rfl); (· rfl); (· rfl); (· rfl); (· rfl)) | (apply WS.loadS; (· rfl); (· rfl); (· (first | rfl | assumption)); (· rfl); (· (repeat (first | assumption | exact obj_new | exact obj_put | (refine obj_old (by (first | omega | (simp only [Heap.alloc_next, Heap.put_next]; omega))) ?_) | (refine obj_else (by (first | omega | (simp only [Heap.alloc_next, Heap.put_next]; omega))) ?_) | (apply Gr.at; (· assumption); (· first | omega | (simp only [Heap.alloc_next, Heap.put_next] at *; omega)))))); (· rfl)) | (apply WS.loadG; (· rfl); (· rfl); (· (first | rfl | assumption)); (· rfl); (· exact sz_at rfl); (· (repeat (first | assumption | exact obj_new | exact obj_put | (refine obj_old (by (first | omega | (simp only [Heap.alloc_next, Heap.put_next]; omega))) ?_) | (refine obj_else (by (first | omega | (simp only [Heap.alloc_next, Heap.put_next]; omega))) ?_) | (apply Gr.at; (· assumption); (· first | omega | (simp only [Heap.alloc_next, Heap.put_next] at *; omega)))))); (· (first | (exact Nat.le_of_ble_eq_true rfl) | (simp; done) | omega)); (· rfl)) | (apply WS.store; (· rfl); (· (first | rfl | assumption)); (· (first | rfl | assumption)); (· rfl); (· (repeat (first | assumption | exact obj_new | exact obj_put | (refine obj_old (by (first | omega | (simp only [Heap.alloc_next, Heap.put_next]; omega))) ?_) | (refine obj_else (by (first | omega | (simp only [Heap.alloc_next, Heap.put_next]; omega))) ?_) | (apply Gr.at; (· assumption); (· first | omega | (simp only [Heap.alloc_next, Heap.put_next] at *; omega)))))); (· (first | (exact Nat.le_of_ble_eq_true rfl) | (simp; done) | omega)); (· rfl); (· rfl)) | (apply WS.buildSlice; (· rfl); (· rfl); (· rfl); (· rfl); (· exact sz_at rfl); (· rfl); (· rfl); (· rfl); (· rfl)) | refine WR.cons ?_ | refine WC.seq hX ?_ | refine WC.region hX ?_ | refine WC.skip ?_ | refine WC.ret ?_ | refine WC.exit ?_ | refine WC.block hX ?_ | (apply WC.condT hX; (· (first | rfl | assumption))) | (apply WC.condF hX; (· (first | rfl | assumption))) | (apply WC.condB hX; (· (first | rfl | assumption))) | refine WR.nil ?_ | (apply WD.pure; (· rfl)) | (apply WD.read; (· rfl)) | (apply WD.alloc; (· rfl)) | (apply WD.heavy hX; (· rfl); (· (repeat (first | exact trivial | (apply ClearS.keep) | (apply ClearS.ask; (· first | exact trivial | (repeat (first | assumption | exact obj_new | exact obj_put | (refine obj_old (by (first | omega | (simp only [Heap.alloc_next, Heap.put_next]; omega))) ?_) | (refine obj_else (by (first | omega | (simp only [Heap.alloc_next, Heap.put_next]; omega))) ?_) | (apply Gr.at; (· assumption); (· first | omega | (simp only [Heap.alloc_next, Heap.put_next] at *; omega))))))))))) | (apply WD.nil; (· (repeat (first | exact trivial | (apply ClearS.keep) | (apply ClearS.ask; (· first | exact trivial | (repeat (first | assumption | exact obj_new | exact obj_put | (refine obj_old (by (first | omega | (simp only [Heap.alloc_next, Heap.put_next]; omega))) ?_) | (refine obj_else (by (first | omega | (simp only [Heap.alloc_next, Heap.put_next]; omega))) ?_) | (apply Gr.at; (· assumption); (· first | omega | (simp only [Heap.alloc_next, Heap.put_next] at *; omega))))))))))) | refine exit_here ?_ | refine exit_up rfl ?_ | (refine WC.drawn (id := 0) hX (l := [⟨0, .pure, 0⟩, ⟨1, .pure, 0⟩, ⟨2, .pure, 2⟩, ⟨3, .pure, 6⟩, ⟨4, .read, 14⟩, ⟨5, .pure, 0⟩, ⟨6, .pure, 0⟩, ⟨7, .pure, 0⟩, ⟨8, .pure, 0⟩, ⟨9, .pure, 256⟩, ⟨10, .pure, 768⟩, ⟨11, .read, 1792⟩, ⟨12, .pure, 4064⟩, ⟨13, .alloc, 8160⟩, ⟨14, .heavy, 16382⟩, ⟨15, .pure, 32767⟩, ⟨16, .pure, 65535⟩, ⟨17, .heavy, 131071⟩]) (by decide +kernel) ?_) | (((intro hh; try (exfalso; first | omega | (exact absurd hh (by assumption)) | (exact absurd (by assumption) hh) | (exact Bool.noConfusion hh) | (simp at hh; done))))))
  · apply WS.append
    (· rfl); (· rfl); (· (first | rfl | assumption)); (· (first | rfl | assumption)); (· rfl); (· rfl); (· intro k hk; cases hk); (· exact fits_at rfl); (· decide); (· (repeat (first | assumption | exact obj_new | exact obj_put | (refine obj_old (by (first | omega | (simp only [Heap.alloc_next, Heap.put_next]; omega))) ?_) | (refine obj_else (by (first | omega | (simp only [Heap.alloc_next, Heap.put_next]; omega))) ?_) | (apply Gr.at; (· assumption); (· first | omega | (simp only [Heap.alloc_next, Heap.put_next] at *; omega)))))); (· (first | (exact Nat.le_of_ble_eq_true rfl) | (simp; done) | omega)); (· rfl); (· unfold room; omega); (· rfl)
    (· exact (ht.mono (h' := h.alloc _) (by simp) (fun j _ hj => obj_old (by omega) rfl)).at)
    intro h1 hn1 ho1 hf1
    have hos : h1.obj s = some (AObj.cells false [Value.string src, Value.int IntKind.i64 k, Value.slice b n es]) := by
      rw [hf1 s (by simp; omega) (by rcases ht with ⟨rfl, _⟩ | ⟨i, rfl, h1, _⟩ <;> intro off e <;> cases e; omega)]
      exact obj_old (by omega) ho
    repeat' (first | (apply WS.move; (· rfl); (· rfl); (· (first | rfl | assumption))) | (apply WS.uw; (· rfl); (· rfl)) | (apply WS.uw'; (· rfl)) | (apply WS.addI; (· rfl); (· rfl); (· (first | rfl | assumption)); (· (first | rfl | assumption)); (· omega)) | (apply WS.addS; (· rfl); (· rfl); (· (first | rfl | assumption)); (· (first | rfl | assumption)); (· (((try simp only [ByteArray.size_append]); omega)))) | (apply WS.addK; (· rfl); (· rfl); (· (first | rfl | assumption)); (· (first | rfl | assumption)); (· (first | (rw [IntKind.wrap_i64]; omega) | (rw [IntKind.wrap_u8]; omega) | (rw [IntKind.wrap_u64]; omega)))) | (apply WS.nilCheck; (· rfl); (· rfl); (· (first | rfl | assumption))) | (apply WS.fieldAddr; (· rfl); (· rfl); (· (first | rfl | assumption)); (· exact offs_at rfl rfl)) | (apply WS.build; (· rfl); (· rfl); (· rfl); (· rfl); (· rfl)) | (apply WS.loadS; (· rfl); (· rfl); (· (first | rfl | assumption)); (· rfl); (· (repeat (first | assumption | exact obj_new | exact obj_put | (refine obj_old (by (first | omega | (simp only [Heap.alloc_next, Heap.put_next]; omega))) ?_) | (refine obj_else (by (first | omega | (simp only [Heap.alloc_next, Heap.put_next]; omega))) ?_) | (apply Gr.at; (· assumption); (· first | omega | (simp only [Heap.alloc_next, Heap.put_next] at *; omega)))))); (· rfl)) | (apply WS.loadG; (· rfl); (· rfl); (· (first | rfl | assumption)); (· rfl); (· exact sz_at rfl); (· (repeat (first | assumption | exact obj_new | exact obj_put | (refine obj_old (by (first | omega | (simp only [Heap.alloc_next, Heap.put_next]; omega))) ?_) | (refine obj_else (by (first | omega | (simp only [Heap.alloc_next, Heap.put_next]; omega))) ?_) | (apply Gr.at; (· assumption); (· first | omega | (simp only [Heap.alloc_next, Heap.put_next] at *; omega)))))); (· (first | (exact Nat.le_of_ble_eq_true rfl) | (simp; done) | omega)); (· rfl)) | (apply WS.store; (· rfl); (· (first | rfl | assumption)); (· (first | rfl | assumption)); (· rfl); (· (repeat (first | assumption | exact obj_new | exact obj_put | (refine obj_old (by (first | omega | (simp only [Heap.alloc_next, Heap.put_next]; omega))) ?_) | (refine obj_else (by (first | omega | (simp only [Heap.alloc_next, Heap.put_next]; omega))) ?_) | (apply Gr.at; (· assumption); (· first | omega | (simp only [Heap.alloc_next, Heap.put_next] at *; omega)))))); (· (first | (exact Nat.le_of_ble_eq_true rfl) | (simp; done) | omega)); (· rfl); (· rfl)) | (apply WS.buildSlice; (· rfl); (· rfl); (· rfl); (· rfl); (· exact sz_at rfl); (· rfl); (· rfl); (· rfl); (· rfl)) | refine WR.cons ?_ | refine WC.seq hX ?_ | refine WC.region hX ?_ | refine WC.skip ?_ | refine WC.ret ?_ | refine WC.exit ?_ | refine WC.block hX ?_ | (apply WC.condT hX; (· (first | rfl | assumption))) | (apply WC.condF hX; (· (first | rfl | assumption))) | (apply WC.condB hX; (· (first | rfl | assumption))) | refine WR.nil ?_ | (apply WD.pure; (· rfl)) | (apply WD.read; (· rfl)) | (apply WD.alloc; (· rfl)) | (apply WD.heavy hX; (· rfl); (· (repeat (first | exact trivial | (apply ClearS.keep) | (apply ClearS.ask; (· first | exact trivial | (repeat (first | assumption | exact obj_new | exact obj_put | (refine obj_old (by (first | omega | (simp only [Heap.alloc_next, Heap.put_next]; omega))) ?_) | (refine obj_else (by (first | omega | (simp only [Heap.alloc_next, Heap.put_next]; omega))) ?_) | (apply Gr.at; (· assumption); (· first | omega | (simp only [Heap.alloc_next, Heap.put_next] at *; omega))))))))))) | (apply WD.nil; (· (repeat (first | exact trivial | (apply ClearS.keep) | (apply ClearS.ask; (· first | exact trivial | (repeat (first | assumption | exact obj_new | exact obj_put | (refine obj_old (by (first | omega | (simp only [Heap.alloc_next, Heap.put_next]; omega))) ?_) | (refine obj_else (by (first | omega | (simp only [Heap.alloc_next, Heap.put_next]; omega))) ?_) | (apply Gr.at; (· assumption); (· first | omega | (simp only [Heap.alloc_next, Heap.put_next] at *; omega))))))))))) | refine exit_here ?_ | refine exit_up rfl ?_ | (refine WC.drawn (id := 0) hX (l := [⟨0, .pure, 0⟩, ⟨1, .pure, 0⟩, ⟨2, .pure, 2⟩, ⟨3, .pure, 6⟩, ⟨4, .read, 14⟩, ⟨5, .pure, 0⟩, ⟨6, .pure, 0⟩, ⟨7, .pure, 0⟩, ⟨8, .pure, 0⟩, ⟨9, .pure, 256⟩, ⟨10, .pure, 768⟩, ⟨11, .read, 1792⟩, ⟨12, .pure, 4064⟩, ⟨13, .alloc, 8160⟩, ⟨14, .heavy, 16382⟩, ⟨15, .pure, 32767⟩, ⟨16, .pure, 65535⟩, ⟨17, .heavy, 131071⟩]) (by decide +kernel) ?_) | (((intro hh; try (exfalso; first | omega | (exact absurd hh (by assumption)) | (exact absurd (by assumption) hh) | (exact Bool.noConfusion hh) | (simp at hh; done))))))
    refine ⟨_, rfl, hq _ ⟨by simp [hn1]; omega, some ⟨h.next + 1, 0, none⟩, n + 1, 4, ?_, .inr ⟨h.next + 1, rfl, by omega, by simp [hn1], rfl, by simp [hlen], ?_⟩⟩ ⟨by simp [hn1]; omega, fun j hj => ?_⟩⟩
    · rw [Int.natCast_add]; exact obj_put
    · refine obj_else (by omega) (obj_else (by omega) ?_)
      simp only [Heap.alloc_next] at ho1
      rw [ho1]
      simp [cellsOf, Tok.cells]
    · refine obj_else (by omega) (obj_else (by omega) ?_)
      rw [hf1 j (by simp; omega) (by rcases ht with ⟨rfl, _⟩ | ⟨i, rfl, h1, _⟩ <;> intro off e <;> cases e; omega)]
      exact obj_old (by omega) rfl

end Go.Proofs.ZL
