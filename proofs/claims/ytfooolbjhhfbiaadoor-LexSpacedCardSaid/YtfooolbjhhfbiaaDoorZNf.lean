/- Facts on the pure scan: a text that is quoted. -/
import Derived.Test.YtfooolbjhhfbiaaDoorZNc
import Derived.Test.YtfooolbjhhfbiaaDoorZA4
open Go Go.Am
namespace Go.Proofs.ZL
set_option maxRecDepth 100000

theorem ASl_gr {h h' : Heap} {b : Option Addr} {n es : Nat} {vs : List Value} (ha : ASl h b n es vs) (g : Gr h h') : ASl h' b n es vs := by
  rcases ha with ⟨rfl, rfl, rfl, rfl⟩ | ⟨i, rfl, h1, rfl, rfl, h2⟩
  · exact .inl ⟨rfl, rfl, rfl, rfl⟩
  · exact .inr ⟨i, rfl, Nat.lt_of_lt_of_le h1 g.1, rfl, rfl, g.at h1 h2⟩

def zb (z : Int) : UInt8 := UInt8.ofNat z.toNat
theorem zb_nat {z : Int} (h : 0 ≤ z ∧ z ≤ 255) : ((zb z).toNat : Int) = z := by
  unfold zb
  rw [UInt8.toNat_ofNat']
  omega
/-- A byte, quoted. -/
def quo (z : Int) : List UInt8 := if z = 10 then [92, 110] else if z = 34 ∨ z = 92 then [92, zb z] else [zb z]
def quos (zs : List Int) : List UInt8 := zs.flatMap quo

theorem conv_str {i n : Nat} {l : List Int} {ro : Bool} {H : Heap} (hn : n = l.length) (ho : H.obj i = some (.cells ro (l.map (Value.int .u8)))) : convertA Tryd.prog 32 9 (.slice (some ⟨i, 0, none⟩) n 1) H = some (.string (strOf l), H) := by
  subst hn
  cases l with
  | nil => rfl
  | cons a l =>
    have h1 : H.cells i 0 (l.length + 1) = some ((a :: l).map (Value.int .u8)) := by
      simp only [Heap.cells, ho]
      rw [if_pos (by simp), List.drop_zero, List.take_of_length_le (by simp)]
    have hu : Tryd.prog.underlying 32 = some (.slice 5) := rfl
    have hu5 : Tryd.prog.underlying 5 = some (.int .u8) := rfl
    have hu9 : Tryd.prog.underlying 9 = some .string := rfl
    unfold convertA
    simp only [hu, hu5, hu9, List.length_cons]
    simp only [if_true, h1, bytesOfCells_map, Option.map_some]
    rw [if_neg (by omega)]
    rfl

theorem textL_quo {k : Nat} {l : List Tok} {z : Int} (hr : 0 ≤ z ∧ z ≤ 255) (hg : z = 10 ∨ 32 ≤ z ∧ z ≤ 126) {r : List UInt8} (hne : r ≠ []) (i : Nat) (out : List Int) :
    textL k l (quo z ++ r) i out = textL k l r (i + (quo z).length) (out ++ [z]) := by
  have hz := zb_nat hr
  unfold quo
  by_cases h10 : z = 10
  · subst h10
    rw [if_pos rfl]
    simp only [List.cons_append, List.nil_append, List.length_cons, List.length_nil]
    rw [textL]
    simp
  · rw [if_neg h10]
    by_cases hq : z = 34 ∨ z = 92
    · rw [if_pos hq]
      simp only [List.cons_append, List.nil_append, List.length_cons, List.length_nil]
      rw [textL]
      simp only [hz]
      rw [if_neg (by decide), if_pos (by decide), if_pos (by omega), if_neg (by omega)]
    · rw [if_neg hq]
      cases r with
      | nil => exact (hne rfl).elim
      | cons d r =>
        simp only [List.cons_append, List.nil_append, List.length_cons, List.length_nil]
        rw [textL]
        simp only [hz]
        rw [if_neg (by omega), if_neg (by omega), if_neg (by omega)]

theorem textL_quos {k : Nat} {l : List Tok} : ∀ (zs : List Int) (i : Nat) (out : List Int), (∀ z ∈ zs, 0 ≤ z ∧ z ≤ 255) → (∀ z ∈ zs, z = 10 ∨ 32 ≤ z ∧ z ≤ 126) →
    textL k l (quos zs ++ [34]) i out = if 256 < (out ++ zs).length then ⟨.long (⟨#[97, 32, 116, 101, 120, 116]⟩ : ByteArray) k, k, l⟩ else ⟨.ok, i + (quos zs).length + 1, l ++ [⟨3, strOf (out ++ zs), 0, k⟩]⟩
  | [], i, out, _, _ => by
    rw [List.append_nil]
    show textL k l [34] i out = _
    unfold textL
    rw [if_pos (by decide)]
    rfl
  | z :: zs, i, out, h1, h2 => by
    have ih := textL_quos (k := k) (l := l) zs (i + (quo z).length) (out ++ [z]) (fun y hy => h1 y (List.mem_cons_of_mem _ hy)) (fun y hy => h2 y (List.mem_cons_of_mem _ hy))
    have e : quos (z :: zs) ++ [34] = quo z ++ (quos zs ++ [34]) := by unfold quos; rw [List.flatMap_cons, List.append_assoc]
    have e2 : (quos (z :: zs)).length = (quo z).length + (quos zs).length := by unfold quos; rw [List.flatMap_cons, List.length_append]
    rw [e, textL_quo (h1 z (List.mem_cons_self ..)) (h2 z (List.mem_cons_self ..)) (by simp), ih, e2, List.append_assoc]
    simp only [List.singleton_append, Nat.add_assoc]

theorem quo_len (z : Int) : (quo z).length ≤ 2 := by unfold quo; split <;> (try split) <;> simp
theorem quos_len : ∀ zs : List Int, (quos zs).length ≤ 2 * zs.length
  | [] => by simp [quos]
  | z :: zs => by
    have := quos_len zs
    have := quo_len z
    unfold quos at *
    rw [List.flatMap_cons, List.length_append, List.length_cons]; omega

theorem scan_quote {zs : List Int} (hz : zs.length ≤ 1000) (h1 : ∀ z ∈ zs, 0 ≤ z ∧ z ≤ 255) (h2 : ∀ z ∈ zs, z = 10 ∨ 32 ≤ z ∧ z ≤ 126) :
    scanS (bts (34 :: quos zs ++ [34])) = if 256 < zs.length then ⟨[], 2, 0⟩ else ⟨[⟨3, strOf zs, 0, 0⟩, ⟨5, (⟨#[59]⟩ : ByteArray), 1, ((quos zs).length + 2 : Nat)⟩, ⟨6, (⟨#[]⟩ : ByteArray), 0, ((quos zs).length + 2 : Nat)⟩], 0, 0⟩ := by
  have hl := quos_len zs
  have hzz : (bts (34 :: quos zs ++ [34])).size ≤ 8192 := by rw [bts_size]; simp; omega
  have hn := nextL_text (r := 34 :: quos zs ++ [34]) rfl 0 []
  have ht : (34 :: quos zs ++ [34] : List UInt8).tail = quos zs ++ [34] := rfl
  rw [ht, textL_quos zs 1 [] h1 h2, List.nil_append, List.nil_append] at hn
  by_cases h256 : 256 < zs.length
  · rw [if_pos h256] at hn
    rw [if_pos h256, scanS_of hzz (o := nextL (34 :: quos zs ++ [34]) 0 []) (by rw [bts_list]; exact .fail (by simp) (by rw [hn]; rfl)), hn]
    rfl
  · rw [if_neg h256] at hn
    rw [if_neg h256]
    have hs : Scans (34 :: quos zs ++ [34]) 0 [] ⟨.ok, (quos zs).length + 2, [⟨3, strOf zs, 0, 0⟩, ⟨5, (⟨#[59]⟩ : ByteArray), 1, ((quos zs).length + 2 : Nat)⟩, ⟨6, (⟨#[]⟩ : ByteArray), 0, ((quos zs).length + 2 : Nat)⟩]⟩ := by
      refine .step ((quos zs).length + 2) [⟨3, strOf zs, 0, 0⟩] (by omega) (by simp) ?_ ?_
      · rw [hn]; simp; omega
      · rw [List.drop_eq_nil_of_le (by simp), Nat.zero_add]
        exact .done _ _
    rw [scanS_of hzz (by rw [bts_list]; exact hs)]
    rfl

end Go.Proofs.ZL
