/- lexer walks -/
import Derived.Test.YtfooolbjhhfbiaaDoorZLt
open Go Go.Am
namespace Go.Proofs.ZL
set_option maxRecDepth 100000
set_option maxHeartbeats 4000000

/-- The place that an error of the scanner tells. -/
def errPos : Value → Option Int
  | .iface t (.agg cs) =>
    if t = 47 then match cs.toList with
      | [.int .i64 p] => some p
      | _ => none
    else if t = 81 then match cs.toList with
      | [.string _, .iface u (.agg ds)] => if u = 47 then match ds.toList with
          | [.int .i64 p] => some p
          | _ => none
        else none
      | _ => none
    else none
  | _ => none

/-- errors.As, for the scanner's two kinds of errors and a place for the first. -/
noncomputable def asO : CallFn → List Value → Heap → Option ARes := fun _ args h =>
  match args with
  | [e, .iface 49 (.pointer (some ⟨i, 0, none⟩))] => match errPos e with
    | some p => (storeA Tryd.prog 47 i 0 (.agg #[.int .i64 p]) h).map fun h' => .ret (.bool true) h'
    | none => none
  | _ => none
noncomputable def X : ExtFn := fun f => if f = 16 then some asO else none
theorem hX : ExtMono X := ⟨fun f o h => by
  unfold X at h
  split at h
  · cases h
    intro C C' _ args hp r hr
    exact hr
  · cases h⟩
abbrev G : Nat := 0

def letterN (c : Int) : Bool := decide (97 ≤ c ∧ c ≤ 122 ∨ 65 ≤ c ∧ c ≤ 90 ∨ c = 95)
def digitN (c : Int) : Bool := decide (48 ≤ c ∧ c ≤ 57)

theorem bool_T {p : Prop} [Decidable p] (hp : p) : Value.bool true = .bool (decide p) := by rw [decide_eq_true hp]
theorem bool_F {p : Prop} [Decidable p] (hp : ¬p) : Value.bool false = .bool (decide p) := by rw [decide_eq_false hp]

theorem letter_w {c : Int} {h : Heap} {Q : ARes → Prop} (hq : Q (.ret (.bool (letterN c)) h)) : WCall Tryd.prog G X 28 [.int .u8 c] h Q := by
  refine WCall.walk hX Tryd.func28 rfl rfl Tryd.ntmps28 rfl ?_
  repeat' (first | (apply WS.move; (· rfl); (· rfl); (· (first | rfl | assumption))) | (apply WS.assign; (· rfl); (· rfl); (· (first | rfl | assumption))) | (apply WS.uw; (· rfl); (· rfl)) | (apply WS.uw'; (· rfl)) | (apply WS.pickT; (· rfl); (· rfl); (· (first | rfl | assumption)); (· (first | rfl | assumption))) | (apply WS.pickF; (· rfl); (· rfl); (· (first | rfl | assumption)); (· (first | rfl | assumption))) | refine WR.cons ?_ | refine WC.seq hX ?_ | refine WC.region hX ?_ | refine WC.skip ?_ | refine WC.ret ?_ | refine WC.exit ?_ | refine WC.block hX ?_ | (apply WC.condT hX; (· (first | rfl | assumption))) | (apply WC.condF hX; (· (first | rfl | assumption))) | (apply WC.condB hX; (· (first | rfl | assumption))) | refine WR.nil ?_ | (apply WD.pure; (· rfl)) | (apply WD.read; (· rfl)) | (apply WD.alloc; (· rfl)) | (apply WD.heavy hX; (· rfl); (· (repeat (first | exact trivial | (apply ClearS.keep) | (apply ClearS.ask; (· first | exact trivial | (repeat (first | assumption | exact obj_new | exact obj_put | (refine obj_old (by (first | omega | (simp only [Heap.alloc_next, Heap.put_next]; omega))) ?_) | (refine obj_else (by (first | omega | (simp only [Heap.alloc_next, Heap.put_next]; omega))) ?_) | (apply Gr.at; (· assumption); (· first | omega | (simp only [Heap.alloc_next, Heap.put_next] at *; omega))))))))))) | (apply WD.nil; (· (repeat (first | exact trivial | (apply ClearS.keep) | (apply ClearS.ask; (· first | exact trivial | (repeat (first | assumption | exact obj_new | exact obj_put | (refine obj_old (by (first | omega | (simp only [Heap.alloc_next, Heap.put_next]; omega))) ?_) | (refine obj_else (by (first | omega | (simp only [Heap.alloc_next, Heap.put_next]; omega))) ?_) | (apply Gr.at; (· assumption); (· first | omega | (simp only [Heap.alloc_next, Heap.put_next] at *; omega))))))))))) | refine exit_here ?_ | refine exit_up rfl ?_ | (apply WS.eqI; (· rfl); (· rfl); (· (first | rfl | assumption)); (· (first | rfl | assumption))) | (apply WS.leI; (· rfl); (· rfl); (· (first | rfl | assumption)); (· (first | rfl | assumption))) | (apply WS.geI; (· rfl); (· rfl); (· (first | rfl | assumption)); (· (first | rfl | assumption))) | (apply WS.eqS; (· rfl); (· rfl); (· (first | rfl | assumption)); (· (first | rfl | assumption))) | (apply WS.eqG; (· rfl); (· rfl); (· (first | rfl | assumption)); (· (first | rfl | assumption)); (· rfl); (· rfl)) | (((intro hh; try (exfalso; first | omega | (exact absurd hh (by assumption)) | (exact absurd (by assumption) hh) | (exact Bool.noConfusion hh) | (simp at hh; done))))))
  all_goals (refine ⟨_, rfl, ?_⟩; refine (congrArg (fun v => Q (.ret v h)) (?_ : answer _ = _)).mpr hq; unfold letterN; first | exact bool_T (by omega) | exact bool_F (by omega))

theorem digit_w {c : Int} {h : Heap} {Q : ARes → Prop} (hq : Q (.ret (.bool (digitN c)) h)) : WCall Tryd.prog G X 30 [.int .u8 c] h Q := by
  refine WCall.walk hX Tryd.func30 rfl rfl Tryd.ntmps30 rfl ?_
  repeat' (first | (apply WS.move; (· rfl); (· rfl); (· (first | rfl | assumption))) | (apply WS.assign; (· rfl); (· rfl); (· (first | rfl | assumption))) | (apply WS.uw; (· rfl); (· rfl)) | (apply WS.uw'; (· rfl)) | (apply WS.pickT; (· rfl); (· rfl); (· (first | rfl | assumption)); (· (first | rfl | assumption))) | (apply WS.pickF; (· rfl); (· rfl); (· (first | rfl | assumption)); (· (first | rfl | assumption))) | refine WR.cons ?_ | refine WC.seq hX ?_ | refine WC.region hX ?_ | refine WC.skip ?_ | refine WC.ret ?_ | refine WC.exit ?_ | refine WC.block hX ?_ | (apply WC.condT hX; (· (first | rfl | assumption))) | (apply WC.condF hX; (· (first | rfl | assumption))) | (apply WC.condB hX; (· (first | rfl | assumption))) | refine WR.nil ?_ | (apply WD.pure; (· rfl)) | (apply WD.read; (· rfl)) | (apply WD.alloc; (· rfl)) | (apply WD.heavy hX; (· rfl); (· (repeat (first | exact trivial | (apply ClearS.keep) | (apply ClearS.ask; (· first | exact trivial | (repeat (first | assumption | exact obj_new | exact obj_put | (refine obj_old (by (first | omega | (simp only [Heap.alloc_next, Heap.put_next]; omega))) ?_) | (refine obj_else (by (first | omega | (simp only [Heap.alloc_next, Heap.put_next]; omega))) ?_) | (apply Gr.at; (· assumption); (· first | omega | (simp only [Heap.alloc_next, Heap.put_next] at *; omega))))))))))) | (apply WD.nil; (· (repeat (first | exact trivial | (apply ClearS.keep) | (apply ClearS.ask; (· first | exact trivial | (repeat (first | assumption | exact obj_new | exact obj_put | (refine obj_old (by (first | omega | (simp only [Heap.alloc_next, Heap.put_next]; omega))) ?_) | (refine obj_else (by (first | omega | (simp only [Heap.alloc_next, Heap.put_next]; omega))) ?_) | (apply Gr.at; (· assumption); (· first | omega | (simp only [Heap.alloc_next, Heap.put_next] at *; omega))))))))))) | refine exit_here ?_ | refine exit_up rfl ?_ | (apply WS.leI; (· rfl); (· rfl); (· (first | rfl | assumption)); (· (first | rfl | assumption))) | (apply WS.geI; (· rfl); (· rfl); (· (first | rfl | assumption)); (· (first | rfl | assumption))) | (((intro hh; try (exfalso; first | omega | (exact absurd hh (by assumption)) | (exact absurd (by assumption) hh) | (exact Bool.noConfusion hh) | (simp at hh; done))))))
  all_goals (refine ⟨_, rfl, ?_⟩; refine (congrArg (fun v => Q (.ret v h)) (?_ : answer _ = _)).mpr hq; unfold digitN; first | exact bool_T (by omega) | exact bool_F (by omega))

end Go.Proofs.ZL
