/- Facts on the pure scan: what a name, a number, a blank comes to. -/
import Derived.Test.YtfooolbjhhfbiaaDoorZNa
import Derived.Test.YtfooolbjhhfbiaaDoorZLq
open Go Go.Am
namespace Go.Proofs.ZL
set_option maxRecDepth 100000

section
variable {n : Nat} {F : List PanicEntry → Heap → Prop} {env : Env} {h : Heap} {lt : Bool} {ops : Array Oper} {d : Nat} {t : TypeId} {p : String} {a : Array Edge} {g : Option (Nat × Bool)} {K : Env → Heap → (Heap → Prop) → Prop}
theorem WS_ne26 {x y : Operand} {c} {i j i' j' : Int} (hg : gOk ops env g = some true) (hn : Nat.blt d n = true) (hx : evalA G env x = some (.agg #[.int .i64 i, .int .i64 j])) (hy : evalA G env y = some (.agg #[.int .i64 i', .int .i64 j']))
    (h1 : i = i' ∧ j = j' ∧ True → K (upd env d (.bool false)) h fun _ => True) (h2 : ¬(i = i' ∧ j = j' ∧ True) → K (upd env d (.bool true)) h fun _ => True) : WS Tryd.prog G X n lt ops ⟨some d, .binOp .neq 26 x y c, t, p, a, g⟩ env h K F := by
  refine WS.askP (p := ¬(i = i' ∧ j = j' ∧ True)) hg hn (fun h => ?_) h2 (fun hc => h1 (Decidable.of_not_not hc))
  simp only [opA, hx, hy, ask26n, if_true, binA, eqA26, Option.map_some, decide_not]
end

theorem runL_all {p : Int → Bool} : ∀ {u x : List UInt8}, (∀ b ∈ u, p b.toNat = true) → (∀ b, x.head? = some b → p b.toNat = false) → runL p (u ++ x) = u.length
  | [], x, _, hx => by
    unfold runL
    cases x with
    | nil => rfl
    | cons b x =>
      rw [List.nil_append, List.takeWhile_cons, if_neg (by rw [hx b rfl]; simp)]
  | a :: u, x, hu, hx => by
    have := runL_all (u := u) (x := x) (fun b hb => hu b (List.mem_cons_of_mem _ hb)) hx
    unfold runL at this ⊢
    rw [List.cons_append, List.takeWhile_cons, if_pos (hu a (List.mem_cons_self ..)), List.length_cons, this, List.length_cons]

theorem take2_hd {r : List UInt8} {a b : UInt8} (h : r.take 2 = [a, b]) : hd r = (a.toNat : Int) := by
  cases r with
  | nil => simp at h
  | cons c r => simp at h; rw [← h.1]; rfl
theorem hd_cons (a : UInt8) (r : List UInt8) : hd (a :: r) = (a.toNat : Int) := rfl
theorem hd_range (r : List UInt8) : 0 ≤ hd r ∧ hd r ≤ 255 := by
  unfold hd
  have := (r.head?.getD 0).toNat_lt
  omega

theorem nextL_blank {r : List UInt8} (h : hd r = 32 ∨ hd r = 9) (k : Nat) (l : List Tok) : nextL r k l = ⟨.ok, k + 1, l⟩ := by unfold nextL; rw [if_pos h]
theorem nextL_line {r : List UInt8} (h : hd r = 10) (k : Nat) (l : List Tok) : nextL r k l = ⟨.ok, k + 1, lineL k l⟩ := by unfold nextL; rw [if_neg (by omega), if_pos h]
theorem noslash {r : List UInt8} (h : hd r ≠ 47) : ¬ r.take 2 = [47, 47] := fun hc => h (take2_hd hc)
theorem nextL_name {r : List UInt8} (h : letterN (hd r) = true) (k : Nat) (l : List Tok) : nextL r k l = nameL r k l := by
  have h' := h
  simp only [letterN, decide_eq_true_eq] at h'
  unfold nextL
  rw [if_neg (by omega), if_neg (by omega), if_neg (noslash (by omega)), if_pos h]
theorem nextL_number {r : List UInt8} (h : digitN (hd r) = true) (k : Nat) (l : List Tok) : nextL r k l = numberL r k l := by
  have h' := h
  simp only [digitN, decide_eq_true_eq] at h'
  have hl : letterN (hd r) = false := by unfold letterN; rw [decide_eq_false_iff_not]; omega
  unfold nextL
  rw [if_neg (by omega), if_neg (by omega), if_neg (noslash (by omega)), hl, if_neg (by simp), if_pos h]
theorem nextL_text {r : List UInt8} (h : hd r = 34) (k : Nat) (l : List Tok) : nextL r k l = textL k l r.tail (k + 1) [] := by
  have hl : letterN (hd r) = false := by unfold letterN; rw [decide_eq_false_iff_not]; omega
  have hd' : digitN (hd r) = false := by unfold digitN; rw [decide_eq_false_iff_not]; omega
  unfold nextL
  rw [if_neg (by omega), if_neg (by omega), if_neg (noslash (by omega)), hl, if_neg (by simp), hd', if_neg (by simp), if_pos h]
theorem nextL_mark {r m : List UInt8} (h1 : hd r ≠ 32 ∧ hd r ≠ 9 ∧ hd r ≠ 10 ∧ hd r ≠ 34) (h2 : r.take 2 ≠ [47, 47]) (h3 : letterN (hd r) = false) (h4 : digitN (hd r) = false) (hm : markL r = m) (hne : m ≠ []) (k : Nat) (l : List Tok) :
    nextL r k l = ⟨.ok, k + m.length, l ++ [⟨5, bts m, 0, k⟩]⟩ := by
  unfold nextL
  rw [if_neg (by omega), if_neg (by omega), if_neg h2, h3, if_neg (by simp), h4, if_neg (by simp), if_neg h1.2.2.2, hm, if_neg hne]

theorem scanS_of {src : ByteArray} {o : Out} (hz : src.size ≤ 8192) (h : Scans src.data.toList 0 [] o) :
    scanS src = if o.err.isOk then (match deepGo o.list 0 with | some p => ⟨[], 3, p⟩ | none => ⟨o.list, 0, 0⟩) else ⟨[], 2, o.err.pos⟩ := by
  unfold scanS
  rw [if_neg (by omega), h.allS]
  by_cases he : o.err.isOk = true
  · rw [if_pos he, if_pos he]; cases deepGo o.list 0 <;> rfl
  · rw [if_neg he, if_neg he]

/-- A name and a blank behind it. -/
theorem scan_name {u : List UInt8} (h1 : 1 ≤ u.length) (h100 : u.length ≤ 100) (hl : letterN (hd u) = true) (ha : ∀ b ∈ u, alnumN b.toNat = true) :
    scanS (bts (u ++ [32])) = if 24 < u.length then ⟨[], 2, 0⟩ else ⟨lineL (u.length + 1) [⟨if inS words (bts u) then 4 else 1, bts u, 0, 0⟩] ++ [⟨6, (⟨#[]⟩ : ByteArray), 0, (u.length + 1 : Nat)⟩], 0, 0⟩ := by
  have hrun : runL alnumN (u ++ [32]) = u.length := runL_all ha (fun b hb => by simp at hb; subst hb; rfl)
  have hne : u ++ [32] ≠ [] := by simp
  have hhd : hd (u ++ [32]) = hd u := by cases u with
    | nil => simp at h1
    | cons a u => rfl
  have hn := nextL_name (r := u ++ [32]) (by rw [hhd]; exact hl) 0 []
  have hz : (bts (u ++ [32])).size ≤ 8192 := by rw [bts_size, List.length_append]; simp; omega
  unfold nameL at hn
  rw [hrun, List.take_left' rfl] at hn
  by_cases h24 : 24 < u.length
  · rw [if_pos h24] at hn
    rw [scanS_of hz (o := nextL (u ++ [32]) 0 []) (by rw [bts_list]; exact .fail hne (by rw [hn]; rfl)), hn, if_pos h24]
    rfl
  · rw [if_neg h24] at hn
    rw [if_neg h24]
    have hs : Scans (bts (u ++ [32])).data.toList 0 [] ⟨.ok, u.length + 1, lineL (u.length + 1) [⟨if inS words (bts u) then 4 else 1, bts u, 0, 0⟩] ++ [⟨6, (⟨#[]⟩ : ByteArray), 0, (u.length + 1 : Nat)⟩]⟩ := by
      rw [bts_list]
      refine .step u.length _ (by omega) (by simp) hn ?_
      rw [List.drop_left' rfl]
      refine .step 1 [⟨if inS words (bts u) then 4 else 1, bts u, 0, 0⟩] (by omega) (by simp) ?_ ?_
      · rw [nextL_blank (by left; rfl)]; simp
      · simp only [List.drop_succ_cons, List.drop_zero, Nat.zero_add]
        exact .done _ _
    rw [scanS_of hz hs]
    simp only [SErr.isOk, if_true]
    have hd0 : deepGo (lineL (u.length + 1) [⟨if inS words (bts u) then 4 else 1, bts u, 0, 0⟩] ++ [⟨6, (⟨#[]⟩ : ByteArray), 0, (u.length + 1 : Nat)⟩]) 0 = none := by
      have hk : (if inS words (bts u) = true then (4 : Int) else 1) ≠ 5 := by split <;> decide
      generalize (if inS words (bts u) = true then (4 : Int) else 1) = kd at hk
      unfold lineL
      split
      · simp only [List.cons_append, List.nil_append, deepGo]
        rw [if_pos hk]
        rfl
      · simp only [List.cons_append, List.nil_append, deepGo]
        rw [if_pos hk]
        rfl
    rw [hd0]

/-- A digit, and a name without a blank behind it. -/
theorem scan_1name {u : List UInt8} (h1 : 1 ≤ u.length) (h100 : u.length ≤ 100) (hl : letterN (hd u) = true) : scanS (bts (49 :: u)) = ⟨[], 2, 1⟩ := by
  have hz : (bts (49 :: u)).size ≤ 8192 := by rw [bts_size, List.length_cons]; omega
  have hrun : runL digitN ([49] ++ u) = 1 := runL_all (by simp; rfl) (fun b hb => by
    have : hd u = b.toNat := by unfold hd; rw [hb]; rfl
    rw [this] at hl
    simp only [letterN, decide_eq_true_eq] at hl
    unfold digitN; rw [decide_eq_false_iff_not]; omega)
  have hn := nextL_number (r := 49 :: u) rfl 0 []
  unfold numberL at hn
  rw [show (49 : UInt8) :: u = [49] ++ u from rfl, hrun] at hn
  rw [if_neg (by omega), if_neg (by omega), if_pos ⟨by simp; omega, hl⟩] at hn
  rw [scanS_of hz (o := nextL (49 :: u) 0 []) (by rw [bts_list]; exact .fail (by simp) (by rw [show (49 : UInt8) :: u = [49] ++ u from rfl, hn]; rfl)), show (49 : UInt8) :: u = [49] ++ u from rfl, hn]
  rfl

theorem app_bts (s : ByteArray) (x : List UInt8) : s ++ bts x = bts (s.data.toList ++ x) := by
  apply ByteArray.ext
  apply Array.toList_inj.1
  rw [ByteArray.data_append]
  simp [bts]
theorem bts_app (s : ByteArray) (x : List UInt8) : bts x ++ s = bts (x ++ s.data.toList) := by
  apply ByteArray.ext
  apply Array.toList_inj.1
  rw [ByteArray.data_append]
  simp [bts]
theorem byteN_mem {s : ByteArray} {b : UInt8} (h : b ∈ s.data.toList) : ∃ j, j < s.size ∧ byteN s (j : Nat) = b.toNat := by
  obtain ⟨j, hj, he⟩ := List.getElem_of_mem h
  have hj' : j < s.size := by simpa using hj
  obtain ⟨c, hc, hv⟩ := byteN_get hj'
  rw [List.getElem?_eq_getElem hj] at hc
  exact ⟨j, hj', by rw [hv, ← Option.some.inj hc, he]⟩

theorem refLetter_w {c : Int} {h : Heap} {Q : ARes → Prop} (hq : Q (.ret (.bool (letterN c)) h)) : WCall Tryd.prog G X 13 [.int .u8 c] h Q := by
  refine WCall.walk hX Tryd.func13 rfl rfl Tryd.ntmps13 rfl ?_
  repeat' (first | (apply WS.move; (· rfl); (· rfl); (· (first | rfl | assumption))) | (apply WS.assign; (· rfl); (· rfl); (· (first | rfl | assumption))) | (apply WS.uw; (· rfl); (· rfl)) | (apply WS.uw'; (· rfl)) | (apply WS.pickT; (· rfl); (· rfl); (· (first | rfl | assumption)); (· (first | rfl | assumption))) | (apply WS.pickF; (· rfl); (· rfl); (· (first | rfl | assumption)); (· (first | rfl | assumption))) | refine WR.cons ?_ | refine WC.seq hX ?_ | refine WC.region hX ?_ | refine WC.skip ?_ | refine WC.ret ?_ | refine WC.exit ?_ | refine WC.block hX ?_ | (apply WC.condT hX; (· (first | rfl | assumption))) | (apply WC.condF hX; (· (first | rfl | assumption))) | (apply WC.condB hX; (· (first | rfl | assumption))) | refine WR.nil ?_ | (apply WD.pure; (· rfl)) | (apply WD.read; (· rfl)) | (apply WD.alloc; (· rfl)) | (apply WD.heavy hX; (· rfl); (· (repeat (first | exact trivial | (apply ClearS.keep) | (apply ClearS.ask; (· first | exact trivial | (repeat (first | assumption | exact obj_new | exact obj_put | (refine obj_old (by (first | omega | (simp only [Heap.alloc_next, Heap.put_next]; omega))) ?_) | (refine obj_else (by (first | omega | (simp only [Heap.alloc_next, Heap.put_next]; omega))) ?_) | (apply Gr.at; (· assumption); (· first | omega | (simp only [Heap.alloc_next, Heap.put_next] at *; omega))))))))))) | (apply WD.nil; (· (repeat (first | exact trivial | (apply ClearS.keep) | (apply ClearS.ask; (· first | exact trivial | (repeat (first | assumption | exact obj_new | exact obj_put | (refine obj_old (by (first | omega | (simp only [Heap.alloc_next, Heap.put_next]; omega))) ?_) | (refine obj_else (by (first | omega | (simp only [Heap.alloc_next, Heap.put_next]; omega))) ?_) | (apply Gr.at; (· assumption); (· first | omega | (simp only [Heap.alloc_next, Heap.put_next] at *; omega))))))))))) | refine exit_here ?_ | refine exit_up rfl ?_ | (apply WS.eqI; (· rfl); (· rfl); (· (first | rfl | assumption)); (· (first | rfl | assumption))) | (apply WS.leI; (· rfl); (· rfl); (· (first | rfl | assumption)); (· (first | rfl | assumption))) | (apply WS.geI; (· rfl); (· rfl); (· (first | rfl | assumption)); (· (first | rfl | assumption))) | (apply WS.eqS; (· rfl); (· rfl); (· (first | rfl | assumption)); (· (first | rfl | assumption))) | (apply WS.eqG; (· rfl); (· rfl); (· (first | rfl | assumption)); (· (first | rfl | assumption)); (· rfl); (· rfl)) | (((intro hh; try (exfalso; first | omega | (exact absurd hh (by assumption)) | (exact absurd (by assumption) hh) | (exact Bool.noConfusion hh) | (simp at hh; done))))))
  all_goals (refine ⟨_, rfl, ?_⟩; refine (congrArg (fun v => Q (.ret v h)) (?_ : answer _ = _)).mpr hq; unfold letterN; first | exact bool_T (by omega) | exact bool_F (by omega))

end Go.Proofs.ZL
