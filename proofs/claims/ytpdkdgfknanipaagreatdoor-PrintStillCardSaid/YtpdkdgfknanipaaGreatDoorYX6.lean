/- The printer on the heap, third part: quoted texts. -/
import Derived.Test.YtpdkdgfknanipaaGreatDoorYX5
section
open Go Go.Am
namespace Go.Am
section
variable {P : Program} {G : Nat} {X : eQ} {n : Nat} {N : Env → aA → Prop} {E : Nat → Env → aA → Prop} {R : Env → aA → Prop} {F : List PanicEntry → aA → Prop} {env : Env} {h : aA} {lt : Bool} {ops : Array Oper} {d : Nat} {t : TypeId} {p : String} {a : Array Edge} {g : Option (Nat × Bool)} {K : Env → aA → (aA → Prop) → Prop}

theorem WC.uN (hX : bW X) {b : Code} (hw : WC P G X n b env h (fun env' h' => WC P G X n (.loop b) env' h' N E R F) E R F) : WC P G X n (.loop b) env h N E R F := by
 refine WC.cB hX (α := Unit) (fun _ => 0) (fun _ e h' => e = env ∧ h' = h) () ⟨rfl, rfl⟩ fun _ e h' _ hi => ?_
 obtain ⟨rfl, rfl⟩ := hi
 exact hw
theorem uI : ∀ l : List Value, dB l = some l
 | [] => rfl
 | v :: l => by unfold dB; rw [uI l]
theorem aCm {ty ty' e : TypeId} {u : TypeDesc} {b : Option Addr} {len es j off m size bytes : Nat} {ro : Bool} {cs old new : List Value} (hu : P.underlying ty = some (.slice e)) (hu' : P.underlying ty' = some u) (hi : ∀ k, u ≠ .int k) (he : dY P e = some (size, bytes))
  (hm : 0 < m) (ho : h.obj j = some (.cells ro cs)) (hl : off + m * size ≤ cs.length) (hnew : (cs.drop off).take (m * size) = new) (hr : (len + m) * bytes ≤ room) (h1 : new.all (·.oneCell') = true) (hs : kG h b len es size old) :
  ∃ h', eR P #[ty, ty'] [.slice b len es, .slice (some ⟨j, off, none⟩) m size] h = some (.slice (some ⟨h.next, 0, none⟩) (len + m) size, h') ∧ h'.next = h.next + 1 ∧ h'.obj h.next = some (.cells false (old ++ new)) ∧
   (∀ i, i < h.next → (∀ off, b ≠ some ⟨i, off, none⟩) → h'.obj i = h.obj i) ∧ ∀ i, i < h.next → h'.ty i = h.ty i := by
 have ha : eM size h (.slice (some ⟨j, off, none⟩) m size) = some (m, new) := by
  simp only [eM]
  rw [if_neg (by omega)]
  simp only [if_true, aA.cells, ho, if_pos hl, hnew, Option.map_some]
 rcases hs with ⟨rfl, rfl, rfl, rfl⟩ | ⟨i, off', cells, rfl, rfl, hob, hle, hold⟩
 ·refine ⟨(h.alloc (.cells false new)).note h.next (some e), ?_, rfl, by rw [aA.eV, cY]; rfl, fun i hlt _ => by rw [aA.eV]; exact bX (by omega) rfl, fun i hlt => ?_⟩
  ·simp only [eR, List.getElem?_toArray, List.getElem?_cons_zero, List.getElem?_cons_succ, hu, hu', he, ha]
   cases u <;> first | exact (hi _ rfl).elim | (rw [if_neg (by omega), if_pos (by simpa using hr)]; simp)
  ·simp only [aA.note, aA.alloc, if_neg (Nat.ne_of_lt hlt)]
 ·refine ⟨((h.put i none).alloc (.cells false (old ++ new))).note h.next (if off' = 0 ∧ h.ty i = some e then some e else none), ?_, rfl, ?_, fun k hlt hne => ?_, fun k hlt => ?_⟩
  ·simp only [eR, List.getElem?_toArray, List.getElem?_cons_zero, List.getElem?_cons_succ, hu, hu', he, ha]
   cases u <;> first | exact (hi _ rfl).elim | (rw [if_neg (by omega)]; simp only [decide_true, hr, h1, Bool.and_self, if_true, hob, aA.cells, if_pos hle, hold, Option.map_some])
  ·rw [aA.eV]; exact cY (h := h.put i none)
  ·rw [aA.eV]; refine bX (h := h.put i none) (by simp only [aA.aE]; omega) (bF (fun e => ?_) rfl)
   subst e
   exact hne off' rfl
  ·simp only [aA.note, aA.alloc, aA.aE, if_neg (Nat.ne_of_lt hlt)]
   show (if k = h.next then none else h.ty k) = h.ty k
   rw [if_neg (Nat.ne_of_lt hlt)]
theorem WS.u7 {ty ty' e : TypeId} {u : TypeDesc} {x y : Operand} {b : Option Addr} {len es j off m size bytes : Nat} {ro : Bool} {cs old new : List Value} (hg : cT ops env g = some true) (hn : Nat.blt d n = true) (hx : aJ G env x = some (.slice b len es)) (hy : aJ G env y = some (.slice (some ⟨j, off, none⟩) m size))
  (hu : P.underlying ty = some (.slice e)) (hu' : P.underlying ty' = some u) (hi : ∀ k, u ≠ .int k) (he : dY P e = some (size, bytes))
  (hm : 0 < m) (ho : h.obj j = some (.cells ro cs)) (hl : off + m * size ≤ cs.length) (hnew : (cs.drop off).take (m * size) = new) (hr : (len + m) * bytes ≤ room) (h1 : new.all (·.oneCell') = true) (hs : kG h b len es size old)
  (hk : ∀ h', h'.next = h.next + 1 → h'.obj h.next = some (.cells false (old ++ new)) → (∀ i, i < h.next → (∀ off, b ≠ some ⟨i, off, none⟩) → h'.obj i = h.obj i) → (∀ i, i < h.next → h'.ty i = h.ty i) → K (bL env d (.slice (some ⟨h.next, 0, none⟩) (len + m) size)) h' fun _ => False) :
  WS P G X n lt ops ⟨some d, .call ⟨.builtin .append, #[x, y], #[ty, ty']⟩, t, p, a, g⟩ env h K F := by
 obtain ⟨h', h1', h2, h3, h4, h5⟩ := aCm hu hu' hi he hm ho hl hnew hr h1 hs
 refine WS.r9 hg hn (v := .slice (some ⟨h.next, 0, none⟩) (len + m) size) (h' := h') ?_ (hk h' h2 h3 h4 h5)
 simp only [c6, iF, bO, hx, hy, h1', Option.map_some]
end
end Go.Am

namespace Go.Proofs.ZL
set_option maxRecDepth 100000
set_option linter.unusedSimpArgs false
set_option linter.unusedVariables false
set_option maxHeartbeats 4000000
variable {h : aA} {Q : bR → Prop} {L : List Tok} {p : Nat} {hd : Bool} {src : ByteArray}
theorem jI.refl (h : aA) : jI h h := fun _ _ => rfl
theorem jI.trans {h h1 h2 : aA} (hn : h.next ≤ h1.next) (k : jI h h1) (k2 : jI h1 h2) : jI h h2 := fun j hj => (k2 j (by omega)).trans (k j hj)
theorem jI.alloc {h h1 : aA} {o : dS} (k : jI h h1) (hn : h.next ≤ h1.next) : jI h (h1.alloc o) := fun j hj => oB (by omega) (k j hj)
theorem jI.put {h h1 : aA} {i : Nat} {o : Option dS} (k : jI h h1) : jI h (h1.put i o) := k
def six : List Value := [.string (⟨#[10]⟩ :ByteArray), .string (⟨#[92, 110]⟩ :ByteArray), .string (⟨#[34]⟩ :ByteArray), .string (⟨#[92, 34]⟩ :ByteArray), .string (⟨#[92]⟩ :ByteArray), .string (⟨#[92, 92]⟩ :ByteArray)]
def aK3 (y : Nat) : List Value := [.int .u32 0, .int .i32 0, .int .u32 0, .nilIface, .slice (some ⟨y, 0, none⟩) 6 1]

theorem aP5 {q : Nat} {ro : Bool} (hql : q < h.next) (ho : h.obj q = some (.cells ro six))
  (hq : ∀ h' x y, Gr h h' → jI h h' → h.next ≤ x ∧ x < h'.next → h.next ≤ y ∧ y < h'.next → x ≠ y → h'.obj x = some (.cells false (aK3 y)) → h'.obj y = some (.cells false six) → Q (.ret (pV x) h')) : aS Tryz.prog G X 92 [.slice (some ⟨q, 0, none⟩) 6 1] h Q := by
 refine Wk Tryz.func92 Tryz.ntmps92 (w:=QN (Mb (w:=QL (QU (QN (Ma (w:=Ms (w:=QK ?_))))))))
 refine WS.bin (u := .int .i64 6) (w := .int .i64 2) (v := .int .i64 0) rfl rfl rfl rfl rfl rfl ?_
 refine MD (w:=fun hh => by omega) (v:=fun hh => QP (UA (QN (Ma (w:=QK ?_)))))
 refine WS.u7 (e := 9) (b := none) (len := 0) (es := 0) (j := q) (off := 0) (m := 6) (size := 1) (bytes := 16) (old := []) (new := six) (cs := six) (ro := ro) rfl rfl rfl rfl rfl rfl (by intro k hk; cases hk) rfl (by omega) ho (Nat.le_refl _) rfl (by decide) rfl (.inl ⟨rfl, rfl, rfl, rfl⟩) ?_
 intro h1 hn1 ho1 hk1 ht1
 have k1 : jI h h1 := ht1
 have g1 : Gr h h1 := ⟨by omega, fun i hi => hk1 i hi (by intro off he; cases he)⟩
 refine Mn (w:=Mx (w:=Mb (w:=QM ?_)))
 refine ⟨_, aM, ?_⟩
 exact hq _ h1.next h.next fG (by (repeat (first | assumption | exact jI.refl _ | (refine jI.put ?_) | (refine jI.alloc ?_ aB)))) aB aB (by omega) aD aD

def dR : List UInt8 := [92, 34, 10]
def aK1 (b : UInt8) : UInt8 := if b = 10 then 110 else b
structure BSR (h : aA) (z k : Nat) (S : Nat → Prop) : Prop where
 own : S z ∧ z < h.next
 obj : ∃ cells t tl, h.obj z = some (.cells false cells) ∧ cells.length = 257 ∧ cells[256]? = some (.slice (some ⟨t, 0, none⟩) k 1) ∧ S t ∧ t < h.next ∧ t ≠ z ∧ h.obj t = some (.cells false tl) ∧ k ≤ tl.length ∧
  tl.take k = (dR.take k).map (fun b => Value.string ⟨#[b]⟩) ∧
  ∀ b : UInt8, if b ∈ dR.take k then ∃ a, cells[b.toNat]? = some (.slice (some ⟨a, 0, none⟩) 2 1) ∧ S a ∧ a < h.next ∧ a ≠ z ∧ h.obj a = some (.cells false [.int .u8 92, .int .u8 (aK1 b).toNat]) else cells[b.toNat]? = some (.slice none 0 0)

theorem aQo : bD (⟨#[92]⟩ :ByteArray) 0 = 92 := by unfold bD; rfl
theorem aQn : bD (⟨#[34]⟩ :ByteArray) 0 = 34 := by unfold bD; rfl
theorem aQm : bD (⟨#[10]⟩ :ByteArray) 0 = 10 := by unfold bD; rfl

theorem aJp {r y : Nat} (hr : r < h.next) (hy : y < h.next) (ho : h.obj r = some (.cells false [.int .u32 0, .int .i32 1, .int .u32 0, .nilIface, .slice (some ⟨y, 0, none⟩) 6 1])) (hoy : h.obj y = some (.cells false six))
  (hq : ∀ h' z, Gr h h' → jI h h' → BSR h' z 3 (fun j => h.next ≤ j) → Q (.ret (.iface 199 (pV z)) h')) : aS Tryz.prog G X 143 [pV r] h Q := by
 have sz0 : ((⟨#[10]⟩ :ByteArray)).size = 1 := rfl
 have sz1 : ((⟨#[92, 110]⟩ :ByteArray)).size = 2 := rfl
 have sz2 : ((⟨#[34]⟩ :ByteArray)).size = 1 := rfl
 have sz3 : ((⟨#[92, 34]⟩ :ByteArray)).size = 2 := rfl
 have sz4 : ((⟨#[92]⟩ :ByteArray)).size = 1 := rfl
 have sz5 : ((⟨#[92, 92]⟩ :ByteArray)).size = 2 := rfl
 unfold six at hoy
 refine Wk Tryz.func143 Tryz.ntmps143 (w:=QN (Mb (w:=QO (Ma (w:=Mi (w:=Mj (w:=Mt (w:=Mb (w:=QL (QU (QN (Ma (w:=Ms (w:=MD (w:=fun hh => by omega) (v:=fun hh => Ma (w:=MA (w:=MA (w:=MA (w:=MA (w:=MA (w:=Md (w:=QP (UA (QN (Mb (w:=QL (QU (QN (Mb (w:=QL (Bk ?_)))))))))))))))))))))))))))))))
 refine WC.uN hX ?_
 refine QU (QN (Ma (w:=Ma (w:=Ms (w:=MF (w:=fun hh => QQ (UA (QU (Bk (QU (QN (Ma (w:=Ma (w:=Ml (w:=Mt (w:=Mr (w:=ME (w:=fun hh => by omega) (v:=fun hh => QP (UA (QN (Ma (w:=Ma (w:=Mf (w:=Ml (w:=Mt (w:=Mr (w:=ME (w:=fun hh => QQ (QV (Mb (w:=QL (QV (Ma (w:=Mf (w:=Mb (w:=QL ?_))))))))) (v:=fun hh => by omega))))))))))))))))))))))) (v:=fun hh => by omega))))))
 refine WC.uN hX ?_
 refine QU (QN (Ma (w:=Ma (w:=Ms (w:=MF (w:=fun hh => QQ (UA (QU (Bk (QU (QN (Ma (w:=Ma (w:=Ml (w:=Mt (w:=Mr (w:=ME (w:=fun hh => by omega) (v:=fun hh => QP (UA (QN (Ma (w:=Ma (w:=Mf (w:=Ml (w:=Mt (w:=Mr (w:=ME (w:=fun hh => QQ (QV (Mb (w:=QL (QV (Ma (w:=Mf (w:=Mb (w:=QL ?_))))))))) (v:=fun hh => by omega))))))))))))))))))))))) (v:=fun hh => by omega))))))
 refine WC.uN hX ?_
 refine QU (QN (Ma (w:=Ma (w:=Ms (w:=MF (w:=fun hh => QQ (UA (QU (Bk (QU (QN (Ma (w:=Ma (w:=Ml (w:=Mt (w:=Mr (w:=ME (w:=fun hh => by omega) (v:=fun hh => QP (UA (QN (Ma (w:=Ma (w:=Mf (w:=Ml (w:=Mt (w:=Mr (w:=ME (w:=fun hh => QQ (QV (Mb (w:=QL (QV (Ma (w:=Mf (w:=Mb (w:=QL ?_))))))))) (v:=fun hh => by omega))))))))))))))))))))))) (v:=fun hh => by omega))))))
 refine WC.uN hX ?_
 refine QU (QN (Ma (w:=Ma (w:=Ms (w:=MF (w:=fun hh => by omega) (v:=fun hh => QP (WC.exit (aH (QU (QN (Ma (w:=QP (UA (QN (Ma (w:=Ms (w:=QK ?_)))))))))))))))))
 refine WS.bin (u := .int .i64 6) (w := .int .i64 2) (v := .int .i64 3) rfl rfl rfl rfl rfl rfl ?_
 refine QK ?_
 refine WS.r9 (v := .slice (some ⟨h.next, 0, none⟩) 0 1) (h' := h.alloc (.cells false [.string (⟨#[]⟩ :ByteArray), .string (⟨#[]⟩ :ByteArray), .string (⟨#[]⟩ :ByteArray)])) rfl rfl rfl ?_
 refine Mn (w:=Mw (w:=Mv (w:=QL (QU (QN (Ma (w:=Ms (w:=Mg (w:=Mb (w:=QL (Bk ?_)))))))))))
 refine WC.frz (C := fun H => Gr h H ∧ jI h H ∧ H.next = h.next + 2 ∧ H.obj h.next = some (.cells false [.string (⟨#[]⟩ :ByteArray), .string (⟨#[]⟩ :ByteArray), .string (⟨#[]⟩ :ByteArray)]) ∧ H.obj (h.next + 1) = some (.cells false (List.replicate 256 (.slice none 0 0) ++ [.slice (some ⟨h.next, 0, none⟩) 0 1]))) ⟨fG, by (repeat (first | assumption | exact jI.refl _ | (refine jI.put ?_) | (refine jI.alloc ?_ aB))), by simp only [aA.aC, aA.aE], aD, eG⟩ ?_
 rintro h1 ⟨g1, k1, hn1, ht1, hz1⟩
 simp only [aA.aC]
 refine WC.uN hX ?_
 refine QU (QN (Ma (w:=MI (w:=fun hh => QQ (UA (QU (Bk (QN (Ma (w:=Ma (w:=Ml (w:=Mt (w:=Mm (w:=Mb (w:=QO (Ma (w:=Ma (w:=Mf (w:=Ml (w:=Mt (w:=Mb (w:=QL (QU (QN (Ma (w:=Mj (w:=QK ?_)))))))))))))))))))))))) (v:=fun hh => by omega))))
 simp only [aQo]
 refine WS.eC (hk := ?_);refine Mt (w:=?_);refine QK (WS.eqG (h1 := ?_) (h2 := ?_));intro hh;refine QQ (QV (Mj (w:=Mt (w:=Ma (w:=My (w:=QK ?_))))));rotate_left;intro hh;exact Bool.noConfusion hh
 refine WS.conv (fun H' => y1 H' 0 (some ⟨h1.next, 0, none⟩) 1 1 [92]) rfl rfl aL (.inr ⟨_, rfl, Nat.zero_le _, aB, rfl, rfl, aD⟩) (fun H' hH => hH.str) ?_
 refine My (w:=QK ?_)
 refine WS.u7 (e := 9) (b := some ⟨h.next, 0, none⟩) (len := 0) (es := 1) (j := h1.next + 1) (off := 0) (m := 1) (size := 1) (bytes := 16) (old := []) (new := [.string ⟨#[92]⟩]) (cs := [.string ⟨#[92]⟩]) (ro := false) rfl rfl aL aL rfl rfl (by intro k hk; cases hk) rfl (by omega) aD (Nat.le_refl _) rfl (by decide) rfl (.inr ⟨_, 0, _, rfl, rfl, aD, (by decide), rfl⟩) ?_
 intro g0 hng0 hog0 hkg0 htg0
 simp only [aA.aC] at hng0 hog0 hkg0 htg0
 have hzg0 : g0.obj (h.next + 1) = some (.cells false (List.replicate 256 (Value.slice none 0 0) ++ [Value.slice (some ⟨h.next, 0, none⟩) 0 1])) := (hkg0 _ (by omega) (by intro off he; simp only [Option.some.injEq, Addr.mk.injEq] at he; omega)).trans aD
 have grg0 : Gr h g0 := ⟨by omega, fun i hi => (hkg0 i (by omega) (by intro off he; simp only [Option.some.injEq, Addr.mk.injEq] at he; omega)).trans bB⟩
 have tyg0 : jI h g0 := fun i hi => (htg0 i (by omega)).trans (by (repeat (first | rfl | (refine xJ ?_) | (refine oB aB ?_) | (exact k1 _ (by omega)) | (exact ty0 _ (by omega)) | (exact ty1 _ (by omega)))))
 have kyg0 : g0.obj y = some (.cells false six) := aD
 refine Mj (w:=Mv (w:=QL (QV (Ma (w:=Ma (w:=?_))))));refine QK (WS.bytesOf (hk := ?_));refine Mj (w:=?_);refine QK (WS.eC (hk := ?_));refine Mv (w:=QL (QV (Ma (w:=Mg (w:=Mb (w:=QL ?_))))))
 refine WC.frz (C := fun H => Gr h H ∧ jI h H ∧ ∃ t0 a0, (h.next + 1 < t0 ∧ t0 < H.next ∧ h.next + 1 < a0 ∧ a0 < H.next ∧ a0 ≠ t0) ∧ H.obj t0 = some (.cells false [.string ⟨#[92]⟩]) ∧ H.obj (h.next + 1) = some (.cells false (((List.replicate 256 (Value.slice none 0 0) ++ [Value.slice (some ⟨h.next, 0, none⟩) 0 1]).set 256 (Value.slice (some ⟨t0, 0, none⟩) 1 1)).set 92 (Value.slice (some ⟨a0, 0, none⟩) 2 1))) ∧ H.obj a0 = some (.cells false [.int .u8 92, .int .u8 92])) ⟨fG, by (repeat (first | assumption | exact jI.refl _ | (refine jI.put ?_) | (refine jI.alloc ?_ aB))), h1.next + 2, g0.next, aB, aD, eG, aD⟩ ?_
 rintro h2 ⟨gr0, ty0, t0, a0, hlt0, hot0, hz0, hoa00⟩
 clear hng0 hog0 hkg0 htg0 hzg0 grg0 tyg0 kyg0
 (try simp only [aA.aC, aA.aE])
 refine WC.uN hX ?_
 refine QU (QN (Ma (w:=MI (w:=fun hh => QQ (UA (QU (Bk (QN (Ma (w:=Ma (w:=Ml (w:=Mt (w:=Mm (w:=Mb (w:=QO (Ma (w:=Ma (w:=Mf (w:=Ml (w:=Mt (w:=Mb (w:=QL (QU (QN (Ma (w:=Mj (w:=QK ?_)))))))))))))))))))))))) (v:=fun hh => by omega))))
 simp only [aQn]
 refine WS.eC (hk := ?_);refine Mt (w:=?_);refine QK (WS.eqG (h1 := ?_) (h2 := ?_));intro hh;refine QQ (QV (Mj (w:=Mt (w:=Ma (w:=My (w:=QK ?_))))));rotate_left;intro hh;exact Bool.noConfusion hh
 refine WS.conv (fun H' => y1 H' 0 (some ⟨h2.next, 0, none⟩) 1 1 [34]) rfl rfl aL (.inr ⟨_, rfl, Nat.zero_le _, aB, rfl, rfl, aD⟩) (fun H' hH => hH.str) ?_
 refine My (w:=QK ?_)
 refine WS.u7 (e := 9) (b := some ⟨t0, 0, none⟩) (len := 1) (es := 1) (j := h2.next + 1) (off := 0) (m := 1) (size := 1) (bytes := 16) (old := [.string ⟨#[92]⟩]) (new := [.string ⟨#[34]⟩]) (cs := [.string ⟨#[34]⟩]) (ro := false) rfl rfl aL aL rfl rfl (by intro k hk; cases hk) rfl (by omega) aD (Nat.le_refl _) rfl (by decide) rfl (.inr ⟨_, 0, _, rfl, rfl, aD, (by decide), rfl⟩) ?_
 intro g1 hng1 hog1 hkg1 htg1
 simp only [aA.aC] at hng1 hog1 hkg1 htg1
 have hzg1 : g1.obj (h.next + 1) = some (.cells false (((List.replicate 256 (Value.slice none 0 0) ++ [Value.slice (some ⟨h.next, 0, none⟩) 0 1]).set 256 (Value.slice (some ⟨t0, 0, none⟩) 1 1)).set 92 (Value.slice (some ⟨a0, 0, none⟩) 2 1))) := (hkg1 _ (by omega) (by intro off he; simp only [Option.some.injEq, Addr.mk.injEq] at he; omega)).trans aD
 have grg1 : Gr h g1 := ⟨by omega, fun i hi => (hkg1 i (by omega) (by intro off he; simp only [Option.some.injEq, Addr.mk.injEq] at he; omega)).trans bB⟩
 have tyg1 : jI h g1 := fun i hi => (htg1 i (by omega)).trans (by (repeat (first | rfl | (refine xJ ?_) | (refine oB aB ?_) | (exact k1 _ (by omega)) | (exact ty0 _ (by omega)) | (exact ty1 _ (by omega)))))
 have kyg1 : g1.obj y = some (.cells false six) := aD
 have oa0g1 : g1.obj a0 = some (.cells false [.int .u8 92, .int .u8 92]) := (hkg1 _ (by omega) (by intro off he; simp only [Option.some.injEq, Addr.mk.injEq] at he; omega)).trans aD
 refine Mj (w:=Mv (w:=QL (QV (Ma (w:=Ma (w:=?_))))));refine QK (WS.bytesOf (hk := ?_));refine Mj (w:=?_);refine QK (WS.eC (hk := ?_));refine Mv (w:=QL (QV (Ma (w:=Mg (w:=Mb (w:=QL ?_))))))
 refine WC.frz (C := fun H => Gr h H ∧ jI h H ∧ ∃ t1 a1, (h.next + 1 < t1 ∧ t1 < H.next ∧ h.next + 1 < a0 ∧ a0 < H.next ∧ a0 ≠ t1 ∧ h.next + 1 < a1 ∧ a1 < H.next ∧ a1 ≠ t1) ∧ H.obj t1 = some (.cells false [.string ⟨#[92]⟩, .string ⟨#[34]⟩]) ∧ H.obj (h.next + 1) = some (.cells false (((((List.replicate 256 (Value.slice none 0 0) ++ [Value.slice (some ⟨h.next, 0, none⟩) 0 1]).set 256 (Value.slice (some ⟨t0, 0, none⟩) 1 1)).set 92 (Value.slice (some ⟨a0, 0, none⟩) 2 1)).set 256 (Value.slice (some ⟨t1, 0, none⟩) 2 1)).set 34 (Value.slice (some ⟨a1, 0, none⟩) 2 1))) ∧ H.obj a0 = some (.cells false [.int .u8 92, .int .u8 92]) ∧ H.obj a1 = some (.cells false [.int .u8 92, .int .u8 34])) ⟨fG, by (repeat (first | assumption | exact jI.refl _ | (refine jI.put ?_) | (refine jI.alloc ?_ aB))), h2.next + 2, g1.next, aB, aD, eG, aD, aD⟩ ?_
 rintro h3 ⟨gr1, ty1, t1, a1, hlt1, hot1, hz1, hoa01, hoa11⟩
 clear hng1 hog1 hkg1 htg1 hzg1 grg1 tyg1 kyg1
 (try simp only [aA.aC, aA.aE])
 refine WC.uN hX ?_
 refine QU (QN (Ma (w:=MI (w:=fun hh => QQ (UA (QU (Bk (QN (Ma (w:=Ma (w:=Ml (w:=Mt (w:=Mm (w:=Mb (w:=QO (Ma (w:=Ma (w:=Mf (w:=Ml (w:=Mt (w:=Mb (w:=QL (QU (QN (Ma (w:=Mj (w:=QK ?_)))))))))))))))))))))))) (v:=fun hh => by omega))))
 simp only [aQm]
 refine WS.eC (hk := ?_);refine Mt (w:=?_);refine QK (WS.eqG (h1 := ?_) (h2 := ?_));intro hh;refine QQ (QV (Mj (w:=Mt (w:=Ma (w:=My (w:=QK ?_))))));rotate_left;intro hh;exact Bool.noConfusion hh
 refine WS.conv (fun H' => y1 H' 0 (some ⟨h3.next, 0, none⟩) 1 1 [10]) rfl rfl aL (.inr ⟨_, rfl, Nat.zero_le _, aB, rfl, rfl, aD⟩) (fun H' hH => hH.str) ?_
 refine My (w:=QK ?_)
 refine WS.u7 (e := 9) (b := some ⟨t1, 0, none⟩) (len := 2) (es := 1) (j := h3.next + 1) (off := 0) (m := 1) (size := 1) (bytes := 16) (old := [.string ⟨#[92]⟩, .string ⟨#[34]⟩]) (new := [.string ⟨#[10]⟩]) (cs := [.string ⟨#[10]⟩]) (ro := false) rfl rfl aL aL rfl rfl (by intro k hk; cases hk) rfl (by omega) aD (Nat.le_refl _) rfl (by decide) rfl (.inr ⟨_, 0, _, rfl, rfl, aD, (by decide), rfl⟩) ?_
 intro g2 hng2 hog2 hkg2 htg2
 simp only [aA.aC] at hng2 hog2 hkg2 htg2
 have hzg2 : g2.obj (h.next + 1) = some (.cells false (((((List.replicate 256 (Value.slice none 0 0) ++ [Value.slice (some ⟨h.next, 0, none⟩) 0 1]).set 256 (Value.slice (some ⟨t0, 0, none⟩) 1 1)).set 92 (Value.slice (some ⟨a0, 0, none⟩) 2 1)).set 256 (Value.slice (some ⟨t1, 0, none⟩) 2 1)).set 34 (Value.slice (some ⟨a1, 0, none⟩) 2 1))) := (hkg2 _ (by omega) (by intro off he; simp only [Option.some.injEq, Addr.mk.injEq] at he; omega)).trans aD
 have grg2 : Gr h g2 := ⟨by omega, fun i hi => (hkg2 i (by omega) (by intro off he; simp only [Option.some.injEq, Addr.mk.injEq] at he; omega)).trans bB⟩
 have tyg2 : jI h g2 := fun i hi => (htg2 i (by omega)).trans (by (repeat (first | rfl | (refine xJ ?_) | (refine oB aB ?_) | (exact k1 _ (by omega)) | (exact ty0 _ (by omega)) | (exact ty1 _ (by omega)))))
 have kyg2 : g2.obj y = some (.cells false six) := aD
 have oa0g2 : g2.obj a0 = some (.cells false [.int .u8 92, .int .u8 92]) := (hkg2 _ (by omega) (by intro off he; simp only [Option.some.injEq, Addr.mk.injEq] at he; omega)).trans aD
 have oa1g2 : g2.obj a1 = some (.cells false [.int .u8 92, .int .u8 34]) := (hkg2 _ (by omega) (by intro off he; simp only [Option.some.injEq, Addr.mk.injEq] at he; omega)).trans aD
 refine Mj (w:=Mv (w:=QL (QV (Ma (w:=Ma (w:=?_))))));refine QK (WS.bytesOf (hk := ?_));refine Mj (w:=?_);refine QK (WS.eC (hk := ?_));refine Mv (w:=QL (QV (Ma (w:=Mg (w:=Mb (w:=QL ?_))))))
 refine WC.frz (C := fun H => Gr h H ∧ jI h H ∧ ∃ t2 a2, (h.next + 1 < t2 ∧ t2 < H.next ∧ h.next + 1 < a0 ∧ a0 < H.next ∧ a0 ≠ t2 ∧ h.next + 1 < a1 ∧ a1 < H.next ∧ a1 ≠ t2 ∧ h.next + 1 < a2 ∧ a2 < H.next ∧ a2 ≠ t2) ∧ H.obj t2 = some (.cells false [.string ⟨#[92]⟩, .string ⟨#[34]⟩, .string ⟨#[10]⟩]) ∧ H.obj (h.next + 1) = some (.cells false (((((((List.replicate 256 (Value.slice none 0 0) ++ [Value.slice (some ⟨h.next, 0, none⟩) 0 1]).set 256 (Value.slice (some ⟨t0, 0, none⟩) 1 1)).set 92 (Value.slice (some ⟨a0, 0, none⟩) 2 1)).set 256 (Value.slice (some ⟨t1, 0, none⟩) 2 1)).set 34 (Value.slice (some ⟨a1, 0, none⟩) 2 1)).set 256 (Value.slice (some ⟨t2, 0, none⟩) 3 1)).set 10 (Value.slice (some ⟨a2, 0, none⟩) 2 1))) ∧ H.obj a0 = some (.cells false [.int .u8 92, .int .u8 92]) ∧ H.obj a1 = some (.cells false [.int .u8 92, .int .u8 34]) ∧ H.obj a2 = some (.cells false [.int .u8 92, .int .u8 110])) ⟨fG, by (repeat (first | assumption | exact jI.refl _ | (refine jI.put ?_) | (refine jI.alloc ?_ aB))), h3.next + 2, g2.next, aB, aD, eG, aD, aD, aD⟩ ?_
 rintro h4 ⟨gr2, ty2, t2, a2, hlt2, hot2, hz2, hoa02, hoa12, hoa22⟩
 clear hng2 hog2 hkg2 htg2 hzg2 grg2 tyg2 kyg2
 (try simp only [aA.aC, aA.aE])
 refine WC.uN hX ?_
 refine QU (QN (Ma (w:=MI (w:=fun hh => by omega) (v:=fun hh => QP (WC.exit (aH (QN (Mo (w:=Mb (w:=QM ?_))))))))))
 refine ⟨_, aM, ?_⟩
 refine hq _ (h.next + 1) gr2 ty2 ⟨⟨Nat.le_succ _, by omega⟩, _, t2, _, hz2, by simp, by simp, by show h.next ≤ t2; omega, by omega, by omega, hot2, by simp, by rfl, fun b => ?_⟩
 by_cases hb : b ∈ dR
 ·rw [if_pos (show b ∈ dR.take 3 from hb)]
  have hc : b = 92 ∨ b = 34 ∨ b = 10 := by simpa [dR] using hb
  rcases hc with rfl | rfl | rfl
  ·exact ⟨a0, rfl, by show h.next ≤ a0; omega, by omega, by omega, hoa02⟩
  ·exact ⟨a1, rfl, by show h.next ≤ a1; omega, by omega, by omega, hoa12⟩
  ·exact ⟨a2, rfl, by show h.next ≤ a2; omega, by omega, by omega, hoa22⟩
 ·rw [if_neg (show ¬ b ∈ dR.take 3 from hb)]
  have n1 : b.toNat ≠ 92 := fun e => hb (by rw [show b = 92 from UInt8.toNat_inj.1 e]; decide)
  have n2 : b.toNat ≠ 34 := fun e => hb (by rw [show b = 34 from UInt8.toNat_inj.1 e]; decide)
  have n3 : b.toNat ≠ 10 := fun e => hb (by rw [show b = 10 from UInt8.toNat_inj.1 e]; decide)
  have n4 := b.toNat_lt
  rw [List.getElem?_set_ne (by omega), List.getElem?_set_ne (by omega), List.getElem?_set_ne (by omega), List.getElem?_set_ne (by omega), List.getElem?_set_ne (by omega), List.getElem?_set_ne (by omega), List.getElem?_append_left (by rw [List.length_replicate]; omega), List.getElem?_replicate, if_pos (by omega)]

theorem BSR.mono {h h' : aA} {z k : Nat} {S S' : Nat → Prop} (B : BSR h z k S) (hn : h.next ≤ h'.next) (ho : ∀ j, S j → j < h.next → S' j ∧ h'.obj j = h.obj j) : BSR h' z k S' := by
 obtain ⟨⟨s1, s2⟩, cells, t, tl, h1, h2, h3, h4, h5, h6, h7, h8, h9, h10⟩ := B
 refine ⟨⟨(ho z s1 s2).1, by omega⟩, cells, t, tl, by rw [(ho z s1 s2).2]; exact h1, h2, h3, (ho t h4 h5).1, by omega, h6, by rw [(ho t h4 h5).2]; exact h7, h8, h9, fun b => ?_⟩
 have hb := h10 b
 split
 ·rename_i hm
  rw [if_pos hm] at hb
  obtain ⟨a, a1, a2, a3, a4, a5⟩ := hb
  exact ⟨a, a1, (ho a a2 a3).1, by omega, a4, by rw [(ho a a2 a3).2]; exact a5⟩
 ·rename_i hm
  rw [if_neg hm] at hb
  exact hb

def mY (l : List UInt8) : Nat := l.countP fun b => decide (b ∈ dR)
theorem aEp {b : UInt8} (h : b ∈ dR) : nY b = [92, aK1 b] := by
 have hc : b = 92 ∨ b = 34 ∨ b = 10 := by simpa [dR] using h
 rcases hc with rfl | rfl | rfl <;> rfl
theorem w9 {b : UInt8} (h : ¬ b ∈ dR) : nY b = [b] := by
 have hc : ¬ (b = 92 ∨ b = 34 ∨ b = 10) := by simpa [dR] using h
 unfold nY
 rw [if_neg (fun e => hc (by simp [e])), if_neg (fun e => hc (by simp [e])), if_neg (fun e => hc (by simp [e]))]
theorem aA9 (l : List UInt8) : (l.flatMap nY).length = l.length + mY l := by
 induction l with
 | nil => rfl
 | cons b l ih =>
  unfold mY at ih ⊢
  rw [List.flatMap_cons, List.length_append, ih, List.countP_cons, List.length_cons]
  by_cases h : b ∈ dR
  ·rw [aEp h, if_pos (by simpa using h)]; simp only [List.length_cons, List.length_nil]; omega
  ·rw [w9 h, if_neg (by simpa using h)]; simp only [List.length_cons, List.length_nil]; omega
theorem aJ2 {l : List UInt8} (h : mY l = 0) : l.flatMap nY = l := by
 induction l with
 | nil => rfl
 | cons b l ih =>
  unfold mY at ih h
  rw [List.countP_cons] at h
  have hb : ¬ b ∈ dR := fun hb => by rw [if_pos (by simpa using hb)] at h; omega
  rw [List.flatMap_cons, w9 hb, ih (by omega)]
  rfl
theorem aQp (l : List UInt8) : mY l = l.count 92 + l.count 34 + l.count 10 := by
 induction l with
 | nil => rfl
 | cons b l ih =>
  unfold mY at ih ⊢
  rw [List.countP_cons, ih, List.count_cons, List.count_cons, List.count_cons]
  by_cases h : b ∈ dR
  ·rw [if_pos (by simpa using h)]
   have hc : b = 92 ∨ b = 34 ∨ b = 10 := by simpa [dR] using h
   rcases hc with rfl | rfl | rfl <;> simp <;> omega
  ·rw [if_neg (by simpa using h)]
   have hc : ¬ (b = 92 ∨ b = 34 ∨ b = 10) := by simpa [dR] using h
   have h1 : ¬ b = 92 := fun e => hc (.inl e)
   have h2 : ¬ b = 34 := fun e => hc (.inr (.inl e))
   have h3 : ¬ b = 10 := fun e => hc (.inr (.inr e))
   simp [h1, h2, h3]
theorem yO (l : List UInt8) {i : Nat} (h : i < l.length) : mY (l.take (i + 1)) = mY (l.take i) + if l[i] ∈ dR then 1 else 0 := by
 unfold mY
 rw [List.take_succ_eq_append_getElem h, List.countP_append, List.countP_singleton]
 by_cases hm : l[i] ∈ dR
 ·rw [if_pos hm, if_pos (by simpa using hm)]
 ·rw [if_neg hm, if_neg (by simpa using hm)]
theorem aD2 (l : List UInt8) : mY l ≤ l.length := List.countP_le_length
def cA (l : List UInt8) (k : Nat) : Nat := ((dR.take k).map fun b => l.count b).sum

theorem aCj : ∀ n, fN (.int .u8 0) n = List.replicate n (.int .u8 0)
 | 0 => rfl
 | n + 1 => by unfold fN; rw [aCj n]; rfl
theorem tZ : Tryz.prog.underlying 47 = some (.slice 5) := by kernel_rfl
theorem aE8 : dY Tryz.prog 5 = some (1, 1) := by kernel_rfl
theorem aF9 : gC Tryz.prog 5 = some (.int .u8 0) := by kernel_rfl
theorem yY : dF Tryz.prog 5 = some 1 := fF rfl
theorem aHy {N : Nat} (hN : N ≤ 100000000) (h : aA) : gP Tryz.prog 47 (.int .i64 N) (.int .i64 N) h = some (.slice (some ⟨h.next, 0, none⟩) N 1, h.alloc (.cells false (List.replicate N (.int .u8 0)))) := by
 simp only [gP, tZ, aE8, aF9]
 rw [if_pos]
 ·simp only [Int.toNat_natCast, aCj]
 ·have h1 : (Value.int .u8 0).cells.size = 1 := rfl
  simp only [h1, Bool.and_eq_true, decide_eq_true_eq, and_true]
  omega
def u8s (l : List UInt8) : List Value := l.map fun b => Value.int .u8 b.toNat
theorem vN (l : List UInt8) : (u8s l).length = l.length := by simp [u8s]
theorem zY (l : List UInt8) (b : UInt8) {n : Nat} (hn : 0 < n) : (u8s l ++ List.replicate n (Value.int .u8 0)).set l.length (.int .u8 b.toNat) = u8s (l ++ [b]) ++ List.replicate (n - 1) (.int .u8 0) := by
 obtain ⟨m, rfl⟩ : ∃ m, n = m + 1 := ⟨n - 1, by omega⟩
 rw [List.set_append_right _ _ (by rw [vN]; exact Nat.le_refl _), vN, Nat.sub_self, List.replicate_succ, List.set_cons_zero]
 simp [u8s]
theorem aK5 (l : List UInt8) (b c : UInt8) {n : Nat} (hn : 1 < n) : cI (u8s l ++ List.replicate n (Value.int .u8 0)) l.length [.int .u8 b.toNat, .int .u8 c.toNat] = u8s (l ++ [b, c]) ++ List.replicate (n - 2) (.int .u8 0) := by
 simp only [cI]
 rw [zY l b (by omega)]
 have := zY (l ++ [b]) c (n := n - 1) (by omega)
 rw [List.length_append, List.length_singleton, List.append_assoc] at this
 rw [this]
 rfl
theorem aB5 (l : List UInt8) : strOf (l.map fun b => (b.toNat : Int)) = ⟨l.toArray⟩ := by
 unfold strOf
 congr 2
 rw [List.map_map]
 conv => rhs; rw [← List.map_id l]
 apply List.map_congr_left
 intro b _
 simp [UInt8.ofNat_toNat]

theorem aOt {q j m a : Nat} {x y : Value} {cs : List Value} (ho : h.obj q = some (.cells false cs)) (hl : j + 2 ≤ cs.length) (hm : 2 ≤ m) (ha : h.obj a = some (.cells false [x, y])) (h1 : [x, y].all (·.oneCell') = true) :
  rZ Tryz.prog #[47, 47] [.slice (some ⟨q, j, none⟩) m 1, .slice (some ⟨a, 0, none⟩) 2 1] h = some (.int .i64 2, h.put q (some (.cells false (cI cs j [x, y])))) := by
 have hk : Nat.min 2 m = 2 := Nat.min_eq_left hm
 have hc : h.cells a 0 (2 * 1) = some [x, y] := by simp only [aA.cells, ha]; rfl
 have hst : h.store q j [x, y] = some (h.put q (some (.cells false (cI cs j [x, y])))) := by
  simp only [aA.store, ho]
  rw [if_pos (by simp only [h1, Bool.and_true, decide_eq_true_eq]; exact hl)]
 simp only [rZ, List.getElem?_toArray, List.getElem?_cons_zero, tZ, yY, hk, hc]
 rw [if_neg (by omega), if_neg (by omega), if_pos (by decide), hst]
 rfl

theorem aIa {P : Program} {G : Nat} {env : Env} {d : Option Tmp} {x y : Operand} {tys : Array TypeId} {t : TypeId} {p : String} {a : Array Edge} {g : Option (Nat × Bool)} {h h' : aA} {u w v : Value} (hx : aJ G env x = some u) (hy : aJ G env y = some w) (hc : rZ P tys [u, w] h = some (v, h')) : c6 P G env ⟨d, .call ⟨.builtin .copy, #[x, y], tys⟩, t, p, a, g⟩ h = some (.val v h') := by
 simp only [c6, iF, bO, hx, hy, hc, Option.map_some]

theorem aOo {z : Nat} {s : ByteArray} {S : Nat → Prop} (hs : s.size ≤ 1000000) (B : BSR h z 3 S) (hq : ∀ h', Gr h h' → jI h h' → Q (.ret (.string (sR s)) h')) : aS Tryz.prog G X 310 [pV z, .string s] h Q := by
 have B0 := B
 obtain ⟨⟨s1, s2⟩, cells, t, tl, ho1, hl1, hc1, st, htl, htz, hot, hk3, htk, hall⟩ := B
 have hL : s.data.toList.length = s.size := by rw [Array.length_toList]; rfl
 generalize hLd : s.data.toList = L at hL
 have hcl := aD2 L
 refine Wk Tryz.func310 Tryz.ntmps310 (w:=WC.aOv (fun e h' => e 0 = some (pV z) ∧ e 1 = some (.string s) ∧ e 5 = some (.int .i64 (s.size + mY L : Nat)) ∧ e 6 = some (.bool (decide (mY L ≠ 0))) ∧ h' = h) ?_ ?_)
 ·refine QV (Mb (w:=QL (QV (Ma (w:=Mr (w:=Mb (w:=QL (QV (Mb (w:=QO (Ma (w:=Mi (w:=Mj (w:=QK ?_))))))))))))))
  refine WS.jC (v := .slice (some ⟨t, 0, none⟩) 3 1) (hc := hc1) (hk := ?_)
  refine Ms (w:=?_);refine QK (WS.aNf (hk := ?_));refine Ma (w:=Mr (w:=MG (w:=fun hh => QQ (QN (Ma (w:=Mi (w:=Mj (w:=QK ?_)))))) (v:=fun hh => QP (QN (Mb (w:=QL (Bk ?_)))))))
  ·refine WS.jC (v := .slice (some ⟨t, 0, none⟩) 3 1) (hc := hc1) (hk := ?_)
   refine Ms (w:=Ma (w:=QL (Bk ?_)))
   refine WC.cB hX (α := Nat) (m := fun k => 3 - k) (Inv := fun k e h' => e 0 = some (pV z) ∧ e 1 = some (.string s) ∧ e 5 = some (.int .i64 (s.size + cA L k : Nat)) ∧ e 6 = some (.bool (decide (cA L k ≠ 0))) ∧ e 30 = some (.slice (some ⟨t, 0, none⟩) 3 1) ∧ e 31 = some (.int .i64 3) ∧ e 32 = some (.int .i64 k) ∧ k ≤ 3 ∧ h' = h) 0 ⟨rfl, rfl, rfl, rfl, rfl, rfl, rfl, by omega, rfl⟩ ?_
   rintro k env h5 ih ⟨e0, e1, e5, e6, e30, e31, e32, hk, rfl⟩
   refine QN (MF (w:=fun hh => QL (QU (QR (UA (QU (Bk (QN (Ml (w:=QK ?_))))))))) (v:=fun hh => QL (QU (QS (WC.exit (aH ?_))))))
   ·have hk' : k < 3 := by omega
    obtain ⟨b, hb, hbt⟩ : ∃ b, dR[k]? = some b ∧ tl[k]? = some (.string ⟨#[b]⟩) := by
     have hkk : k < dR.length := hk'
     refine ⟨dR[k], List.getElem?_eq_getElem hkk, ?_⟩
     have := congrArg (fun l => l[k]?) htk
     simp only [List.getElem?_take, if_pos hk', List.getElem?_map, List.getElem?_eq_getElem hkk, Option.map_some] at this
     exact this
    have hbm : b ∈ dR := List.mem_of_getElem? hb
    have hbc := hall b
    rw [if_pos (show b ∈ dR.take 3 from hbm)] at hbc
    obtain ⟨a, ha1, ha2, ha3, ha4, ha5⟩ := hbc
    have hcs : cA L (k + 1) = cA L k + L.count b := by
     unfold cA
     rw [List.take_add_one, hb]
     simp
    have hcb : L.count b ≤ L.length := List.count_le_length
    have hca : cA L k ≤ 3 * L.length := by
     have q1 : ∀ c : UInt8, L.count c ≤ L.length := fun c => List.count_le_length
     have h92 := q1 92
     have h34 := q1 34
     have h10 := q1 10
     have hk4 : k = 0 ∨ k = 1 ∨ k = 2 := by omega
     rcases hk4 with rfl | rfl | rfl <;> simp [cA, dR] <;> omega
    have szb : (⟨#[b]⟩ : ByteArray).size = 1 := rfl
    have bnb : bD ⟨#[b]⟩ 0 = (b.toNat : Int) := by unfold bD; rfl
    have hb256 := b.toNat_lt
    refine WS.jC (v := .string ⟨#[b]⟩) (hc := by simpa using hbt) (hk := ?_)
    refine Mb (w:=QO (Ma (w:=Ma (w:=MJ aPt (w:=aS.ext (X := X) (o := wF) (r := .ret (.int .i64 (L.count b)) h5) rfl (fun C => by simp only [wF, hLd]; rfl) ?_)))))
    refine Mb (w:=QO (Ma (w:=ME (w:=fun hh => QQ (QU (Gd [⟨0, .pure, 0⟩, ⟨1, .pure, 0⟩, ⟨2, .pure, 0⟩, ⟨3, .pure, 0⟩, ⟨4, .pure, 8⟩, ⟨5, .pure, 4⟩, ⟨6, .pure, 36⟩, ⟨7, .pure, 124⟩, ⟨8, .read, 252⟩, ⟨9, .read, 508⟩, ⟨10, .pure, 1020⟩, ⟨11, .pure, 2046⟩, ⟨12, .pure, 4095⟩, ⟨13, .pure, 8191⟩] (w:=Da (w:=Da (w:=Da (w:=Da (w:=Dm (w:=Di (w:=Dj (w:=?_))))))))))) (v:=?_))));refine QW (k := WS.eC (hk := ?_));refine WD.read (hw := ?_);rotate_left;intro hh;refine QP (UA (QV (Mf (w:=Ma (w:=QL ?_)))));rotate_left
    ·simp only [bnb]
     skip
     refine WS.jC (v := .slice (some ⟨a, 0, none⟩) 2 1) (hc := by simpa using ha1) (hk := ?_)
     refine Rs (w:=?_);refine QW (k := Qg ?_);refine QW (k := WS.aNf (hk := ?_));refine Df (w:=Db (w:=WD.nil (hq:=QV (Mb (w:=QL (QV (Mf (w:=Ma (w:=QL ?_)))))))))
     refine ih (k + 1) _ _ (by omega) ⟨aL, aL, ?_, ?_, aL, aL, rfl, by omega, rfl⟩
     ·show some (Value.int .i64 _) = some (Value.int .i64 _)
      congr 2
      omega
     ·show some (Value.bool true) = some (Value.bool _)
      rw [decide_eq_true (by omega)]
    ·refine ih (k + 1) _ _ (by omega) ⟨aL, aL, ?_, ?_, aL, aL, rfl, by omega, rfl⟩
     ·rw [hcs, show L.count b = 0 by omega, Nat.add_zero]; exact aL
     ·rw [hcs, show L.count b = 0 by omega, Nat.add_zero]; exact aL
   ·have hk3 : k = 3 := by omega
    subst hk3
    have hc3 : cA L 3 = mY L := by rw [aQp]; simp [cA, dR]; omega
    rw [hc3] at e5 e6
    exact ⟨aL, aL, aL, aL, rfl⟩
  ·refine WC.cB hX (α := Nat) (m := fun i => L.length - i) (Inv := fun i e h' => e 0 = some (pV z) ∧ e 1 = some (.string s) ∧ e 5 = some (.int .i64 (s.size + mY (L.take i) : Nat)) ∧ e 6 = some (.bool (decide (mY (L.take i) ≠ 0))) ∧ e 10 = some (.int .i64 i) ∧ i ≤ L.length ∧ h' = h) 0 ⟨rfl, rfl, rfl, rfl, rfl, by omega, rfl⟩ ?_
   rintro i env h5 ih ⟨e0, e1, e5, e6, e10, hi, rfl⟩
   refine QU (QN (Ma (w:=Ma (w:=Mr (w:=MF (w:=fun hh => QQ (UA (QU (Bk (QN (Ma (w:=Ma (w:=Mm (w:=Mb (w:=QO (Ma (w:=Ma (w:=Mi (w:=Mj (w:=QK ?_))))))))))))))) (v:=fun hh => QP (WC.exit (aH ?_))))))))
   ·have hi' : i < L.length := by omega
    have hct := yO L hi'
    have hcl2 := aD2 (L.take i)
    rw [List.length_take] at hcl2
    have hbn : bD s (i : Int) = (L[i].toNat : Int) := by
     unfold bD
     rw [hLd, List.getD_eq_getElem?_getD, show (i : Int).toNat = i from rfl, List.getElem?_eq_getElem hi', Option.getD_some]
    have hb256 := L[i].toNat_lt
    have hbc := hall L[i]
    rw [show dR.take 3 = dR from rfl] at hbc
    simp only [hbn]
    refine WS.eC (hk := ?_);refine QK ?_
    by_cases hm : L[i] ∈ dR
    ·rw [if_pos hm] at hbc hct
     obtain ⟨a, ha1, ha2, ha3, ha4, ha5⟩ := hbc
     refine WS.jC (v := .slice (some ⟨a, 0, none⟩) 2 1) (hc := by simpa using ha1) (hk := ?_)
     refine QK (WS.neG (h1 := ?_) (h2 := ?_));intro hh;refine QQ (QN (Ma (w:=Ma (w:=Ma (w:=Mi (w:=Mj (w:=?_)))))));refine QK (WS.eC (hk := ?_));refine QK ?_;rotate_left;intro hh;exact Bool.noConfusion hh
     refine WS.jC (v := .slice (some ⟨a, 0, none⟩) 2 1) (hc := by simpa using ha1) (hk := ?_)
     refine Ms (w:=Mg (w:=Mf (w:=Mb (w:=QL (QV (Mb (w:=QL (QV (Ma (w:=Mf (w:=Mb (w:=QL ?_))))))))))))
     refine ih (i + 1) _ _ (by omega) ⟨aL, aL, ?_, ?_, aL, by omega, rfl⟩
     ·show some (Value.int .i64 _) = some (Value.int .i64 _)
      congr 2
      omega
     ·show some (Value.bool true) = some (Value.bool _)
      rw [decide_eq_true (by omega)]
    ·rw [if_neg hm] at hbc hct
     refine WS.jC (v := .slice none 0 0) (hc := by simpa using hbc) (hk := ?_)
     refine QK (WS.neG (h1 := ?_) (h2 := ?_));intro hh;exact Bool.noConfusion hh;intro hh;refine QP (UA (QV (Ma (w:=Mf (w:=Mb (w:=QL ?_))))))
     refine ih (i + 1) _ _ (by omega) ⟨aL, aL, ?_, ?_, aL, by omega, rfl⟩
     ·rw [hct, Nat.add_zero]; exact aL
     ·rw [hct, Nat.add_zero]; exact aL
   ·rw [List.take_of_length_le (by omega)] at e5 e6
    exact ⟨aL, aL, aL, aL, rfl⟩
 ·rintro e1 h1 ⟨e10, e11, e15, e16, rfl⟩
  refine QU (QN (Ma (w:=Me (w:=QL (WC.aD4 hX (h1 := fun hh => QN (Ma (w:=Mb (w:=QM ?_)))) (h2 := fun hh => UA (QN (Ma (w:=QK ?_)))))))))
  ·have hz1 : mY L = 0 := by simpa using hh
   refine ⟨_, aM, ?_⟩
   have : s = sR s := by
    unfold sR
    rw [hLd, aJ2 hz1, ← hLd]
   rw [← this] at hq
   exact hq _ (Gr.refl _) (jI.refl _)
  ·have hz1 : mY L ≠ 0 := by simpa using hh
   generalize hN : s.size + mY L = N at *
   refine WS.r9 (v := .slice (some ⟨h1.next, 0, none⟩) N 1) (h' := h1.alloc (.cells false (List.replicate N (.int .u8 0)))) rfl rfl ?_ ?_
   ·have hev : aJ G (bL (bL (bL e1 81 (Value.bool (decide (mY L ≠ 0)))) 82 (Value.bool !decide (mY L ≠ 0))) 84 (Value.int IntKind.i64 ↑N)) (.tmp 84) = some (.int .i64 N) := aL
    simp only [c6, hev, aHy (show N ≤ 100000000 by omega) h1, Option.map_some]
   refine Mb (w:=QO (Mb (w:=QL (QU (QN (Mb (w:=QL (Bk ?_))))))))
   have hfl := aA9 L
   refine WC.cB hX (α := Nat) (m := fun i => L.length - i) (Inv := fun i e h' => e 0 = some (pV z) ∧ e 1 = some (.string s) ∧ e 12 = some (.slice (some ⟨h1.next, 0, none⟩) N 1) ∧ e 13 = some (.int .i64 ((L.take i).flatMap nY).length) ∧ e 14 = some (.int .i64 i) ∧ i ≤ L.length ∧ Gr h1 h' ∧ jI h1 h' ∧ h1.next < h'.next ∧ h'.obj h1.next = some (.cells false (u8s ((L.take i).flatMap nY) ++ List.replicate (N - ((L.take i).flatMap nY).length) (.int .u8 0)))) 0 ⟨aL, aL, aL, aL, aL, by omega, fG, by (repeat (first | assumption | exact jI.refl _ | (refine jI.put ?_) | (refine jI.alloc ?_ aB))), aB, aD⟩ ?_
   rintro i env h5 ih ⟨e0, e1, e12, e13, e14, hi, g5, k5, hn5, ho5⟩
   have B5 : BSR h5 z 3 S := B0.mono g5.1 fun j hj hlt => ⟨hj, g5.2 j hlt⟩
   obtain ⟨⟨_, z5⟩, cells, t, tl, ho1, hl1, hc1, st, htl, htz, hot, hk3, htk, hall⟩ := B5
   generalize hF : (L.take i).flatMap nY = F at *
   refine QU (QN (Ma (w:=Ma (w:=Mr (w:=MF (w:=fun hh => QQ (UA (QU (Bk (QN (Ma (w:=Ma (w:=Mm (w:=Mb (w:=QO (Ma (w:=Ma (w:=Mi (w:=Mj (w:=QK ?_))))))))))))))) (v:=fun hh => QP (WC.exit (aH (QN (Ma (w:=QK ?_)))))))))))
   ·have hi' : i < L.length := by omega
    have hct := yO L hi'
    have hF1 : (L.take (i + 1)).flatMap nY = F ++ nY L[i] := by rw [List.take_succ_eq_append_getElem hi', List.flatMap_append, hF]; simp
    have hle : (F ++ nY L[i]).length ≤ N := by
     rw [← hF1, ← hN, aA9, List.length_take]
     have := (List.take_sublist (i + 1) L).countP_le (p := fun b => decide (b ∈ dR))
     unfold mY
     omega
    rw [List.length_append] at hle
    have hbn : bD s (i : Int) = (L[i].toNat : Int) := by
     unfold bD
     rw [hLd, List.getD_eq_getElem?_getD, show (i : Int).toNat = i from rfl, List.getElem?_eq_getElem hi', Option.getD_some]
    have hb256 := L[i].toNat_lt
    have hbc := hall L[i]
    rw [show dR.take 3 = dR from rfl] at hbc
    simp only [hbn]
    refine WS.eC (hk := ?_);refine QK ?_
    by_cases hm : L[i] ∈ dR
    ·rw [if_pos hm] at hbc
     rw [aEp hm] at hF1 hle
     obtain ⟨a, ha1, ha2, ha3, ha4, ha5⟩ := hbc
     refine WS.jC (v := .slice (some ⟨a, 0, none⟩) 2 1) (hc := by simpa using ha1) (hk := ?_)
     refine QK (WS.neG (h1 := ?_) (h2 := ?_));intro hh;refine QQ (Gd [⟨0, .pure, 0⟩, ⟨1, .pure, 0⟩, ⟨2, .pure, 0⟩, ⟨3, .pure, 6⟩, ⟨4, .pure, 0⟩, ⟨5, .pure, 0⟩, ⟨6, .pure, 16⟩, ⟨7, .pure, 80⟩, ⟨8, .pure, 240⟩, ⟨9, .read, 496⟩, ⟨10, .aF, 1022⟩, ⟨11, .pure, 2047⟩, ⟨12, .pure, 4095⟩] (w:=Da (w:=Da (w:=Da (w:=?_)))));refine WD.pure (hw := ?_);rotate_left;intro hh;exact Bool.noConfusion hh
     have hsl : iB Tryz.prog 47 (.slice (some ⟨h1.next, 0, none⟩) N 1) (some (.int .i64 F.length)) none = some (.slice (some ⟨h1.next, F.length, none⟩) (N - F.length) 1) := by
      have : (F.length : Int) ≤ N := by omega
      simp [iB, tZ, jM, yY, this]
     have hcp := aOt (q := h1.next) (j := F.length) (m := N - F.length) (a := a) (h := h5) ho5 (by rw [List.length_append, vN, List.length_replicate]; simp only [List.length_cons, List.length_nil] at hle; omega) (by simp only [List.length_cons, List.length_nil] at hle; omega) ha5 rfl
     simp only [List.length_cons, List.length_nil] at hle
     rw [show (Value.int .u8 92) = .int .u8 (UInt8.toNat 92) from rfl, aK5 F 92 (aK1 L[i]) (by omega)] at hcp
     apply WS.slice
     (· rfl); (· rfl); (· exact aL); (· rfl); (· rfl); (· exact hsl)
     refine Da (w:=Da (w:=Di (w:=Dj (w:=?_))));refine QW (k := WS.eC (hk := ?_));refine WD.read (hw := ?_)
     refine WS.jC (v := .slice (some ⟨a, 0, none⟩) 2 1) (hc := by simpa using ha1) (hk := ?_)
     refine WD.aF hX (hw := ?_)
     refine WS.r9 rfl rfl (aIa aL aL hcp) ?_
     refine Df (w:=Db (w:=WD.nil (hq:=QV (Ma (w:=Mf (w:=Mb (w:=QL ?_)))))))
     refine ih (i + 1) _ _ (by omega) ⟨aL, aL, aL, ?_, aL, by omega, fG, by (repeat (first | assumption | exact jI.refl _ | (refine jI.put ?_) | (refine jI.alloc ?_ aB))), aB, ?_⟩
     ·rw [hF1]
      show some (Value.int .i64 _) = some (Value.int .i64 _)
      congr 2
      simp only [List.length_append, List.length_cons, List.length_nil]
      omega
     ·rw [hF1, show N - (F ++ [92, aK1 L[i]]).length = N - F.length - 2 by simp only [List.length_append, List.length_cons, List.length_nil]; omega]
      exact eG
    ·rw [if_neg hm] at hbc
     rw [w9 hm] at hF1 hle
     simp only [List.length_cons, List.length_nil] at hle
     refine WS.jC (v := .slice none 0 0) (hc := by simpa using hbc) (hk := ?_)
     refine QK (WS.neG (h1 := ?_) (h2 := ?_));intro hh;exact Bool.noConfusion hh;intro hh;refine QP (QN (Ma (w:=Ma (w:=Ma (w:=Ml (w:=QK ?_))))))
     refine WS.store (cs' := u8s (F ++ [L[i]]) ++ List.replicate (N - F.length - 1) (.int .u8 0)) (hf := by (try rw [List.length_append, vN, List.length_replicate]); show _ + 1 ≤ _; omega) (hs' := ?_) (hk := ?_)
     ·have := zY F L[i] (n := N - F.length) (by omega)
      refine Eq.trans (uI _) ?_
      refine congrArg some (Eq.trans ?_ this)
      show cI _ _ [_] = _
      simp only [cI]
      congr 1
      omega
     refine QL (QV (Ma (w:=Mf (w:=Mb (w:=QL (QV (Ma (w:=Mf (w:=Mb (w:=QL ?_))))))))))
     refine ih (i + 1) _ _ (by omega) ⟨aL, aL, aL, ?_, aL, by omega, fG, by (repeat (first | assumption | exact jI.refl _ | (refine jI.put ?_) | (refine jI.alloc ?_ aB))), aB, ?_⟩
     ·rw [hF1]
      show some (Value.int .i64 _) = some (Value.int .i64 _)
      congr 2
      simp only [List.length_append, List.length_cons, List.length_nil]
      omega
     ·rw [hF1, show N - (F ++ [L[i]]).length = N - F.length - 1 by simp only [List.length_append, List.length_cons, List.length_nil]; omega]
      exact eG
   ·rw [List.take_of_length_le (by omega)] at hF
    rw [hF] at hfl
    have hNF : N = F.length := by omega
    rw [hNF, Nat.sub_self, List.replicate_zero, List.append_nil] at ho5
    have hbs : y1 h5 0 (some ⟨h1.next, 0, none⟩) N 1 (F.map fun b => (b.toNat : Int)) := .inr ⟨_, rfl, Nat.zero_le _, hn5, rfl, by rw [List.length_map]; exact hNF, by rw [ho5]; simp [u8s]⟩
    refine WS.conv (fun H' => y1 H' 0 (some ⟨h1.next, 0, none⟩) N 1 (F.map fun b => (b.toNat : Int))) rfl rfl aL hbs (fun H' hH => hH.str) ?_
    rw [aB5]
    refine Mb (w:=QM ?_)
    refine ⟨_, aM, ?_⟩
    have hqb : sR s = ⟨F.toArray⟩ := by unfold sR; rw [hLd, hF]
    rw [hqb] at hq
    exact hq _ g5 k5

theorem aS.aMx {P : Program} {G : Nat} {X : eQ} {f : FuncId} {o : bK → List Value → aA → Option bR} {args : List Value} {r : bR} {k : Nat} (hx : X f = some o) (ho : o (bZ P G X k) args h = some r) (hq : Q r) : aS P G X f args h Q :=
 aS.intro ⟨k + 1, r, by simp only [bZ, hx, ho], hq⟩

theorem aJo {r y : Nat} (hr : r < h.next) (hy : y < h.next) (hne : y ≠ r) (ho : h.obj r = some (.cells false [.int .u32 0, .int .i32 1, .int .u32 0, .nilIface, .slice (some ⟨y, 0, none⟩) 6 1])) (hoy : h.obj y = some (.cells false six))
  (hq : ∀ h' z, h.next ≤ h'.next → (∀ j, j < h.next → j ≠ r → h'.obj j = h.obj j) → jI h h' → BSR h' z 3 (fun j => h.next ≤ j) → h'.obj r = some (.cells false [.int .u32 0, .int .i32 1, .int .u32 0, .iface 199 (pV z), .slice none 0 0]) → Q (.ret (.tuple #[]) h')) : aS Tryz.prog G X 120 [pV r] h Q := by
 refine Wk Tryz.func120 Tryz.ntmps120 (w:=QN (Ma (w:=Ma (w:=MJ aPb (w:=aJp hr hy ho hoy fun h1 z g1 k1 B1 => ?_)))))
 have hn1 := g1.1
 have o1 : h1.obj r = some (.cells false [.int .u32 0, .int .i32 1, .int .u32 0, .nilIface, .slice (some ⟨y, 0, none⟩) 6 1]) := aD
 refine Mi (w:=Mj (w:=Mv (w:=QL (QV (Ma (w:=Mi (w:=Mj (w:=Mv (w:=QL ?_)))))))))
 refine ⟨_, aM, ?_⟩
 refine hq _ z aB (fun j hj hjr => bB) (by (repeat (first | assumption | exact jI.refl _ | (refine jI.put ?_) | (refine jI.alloc ?_ aB)))) (B1.mono aB fun j hS hj => ⟨hS, ?_⟩) aD
 refine bF (by omega) (bF (by omega) rfl)

theorem aNn {r y : Nat} (hr : r < h.next) (hy : y < h.next) (hne : y ≠ r) (ho : h.obj r = some (.cells false (aK3 y))) (hoy : h.obj y = some (.cells false six))
  (hq : ∀ h' z, h.next ≤ h'.next → (∀ j, j < h.next → j ≠ r → h'.obj j = h.obj j) → jI h h' → BSR h' z 3 (fun j => h.next ≤ j) → h'.obj r = some (.cells false [.int .u32 1, .int .i32 0, .int .u32 0, .iface 199 (pV z), .slice none 0 0]) → Q (.ret (.tuple #[]) h')) : aS Tryz.prog G X 119 [.pointer (some ⟨r, 0, none⟩), .func (.func 120) #[pV r] #[]] h Q := by
 have hb := aJo (r := r) (y := y) (h := h.put r (some (.cells false [.int .u32 0, .int .i32 1, .int .u32 0, .nilIface, .slice (some ⟨y, 0, none⟩) 6 1]))) (Q := fun x => ∃ h' z, x = .ret (.tuple #[]) h' ∧ h.next ≤ h'.next ∧ (∀ j, j < h.next → j ≠ r → h'.obj j = h.obj j) ∧ jI h h' ∧ BSR h' z 3 (fun j => h.next ≤ j) ∧ h'.obj r = some (.cells false [.int .u32 0, .int .i32 1, .int .u32 0, .iface 199 (pV z), .slice none 0 0])) aB aB hne eG (bF hne hoy) (fun h' z h1 h2 h3 h4 h5 => ⟨h', z, rfl, h1, fun j hj hjr => (h2 j hj hjr).trans (bF hjr rfl), h3, h4, h5⟩)
 obtain ⟨k, x, hx, h', z, rfl, h1, h2, h3, h4, h5⟩ := aS.out hb
 refine aS.aMx (X := X) (o := uP) (k := k) (r := .ret (.tuple #[]) (h'.put r (some (.cells false [.int .u32 1, .int .i32 0, .int .u32 0, .iface 199 (pV z), .slice none 0 0])))) rfl ?_ ?_
 ·unfold aK3 at ho
  simp only [uP, if_true, ho]
  rw [hx]
  simp only [h5]
 ·refine hq _ z h1 (fun j hj hjr => (bF hjr rfl).trans (h2 j hj hjr)) h3 (h4.mono (Nat.le_refl _) fun j hS hj => ⟨hS, bF (by omega) rfl⟩) eG

theorem aHx {z : Nat} : oK Tryz.prog 199 (pV z) "Replace" = some (310, pV z) := by kernel_rfl

theorem aNq {r y : Nat} {s : ByteArray} (hs : s.size ≤ 1000000) (hr : r < h.next) (hy : y < h.next) (hne : y ≠ r) (ho : h.obj r = some (.cells false (aK3 y))) (hoy : h.obj y = some (.cells false six))
  (hq : ∀ h', h.next ≤ h'.next → (∀ j, j < h.next → j ≠ r → h'.obj j = h.obj j) → jI h h' → Q (.ret (.string (sR s)) h')) : aS Tryz.prog G X 93 [pV r, .string s] h Q := by
 refine Wk Tryz.func93 Tryz.ntmps93 (w:=QN (Mb (w:=QO (Ma (w:=Mi (w:=Mj (w:=Ma (w:=Mp (w:=MJ aO4 (w:=aNn hr hy hne ho hoy fun h1 z hn1 hf1 k1 B1 ho1 => ?_))))))))))
 refine QO (Ma (w:=Mi (w:=Mj (w:=Mt (w:=Ma (w:=QK ?_))))))
 refine WS.invoke rfl rfl aL rfl aHx aPs ?_
 refine aOo hs B1 fun h2 g2 k2 => ?_
 have hn2 := g2.1
 refine Mb (w:=QM ?_)
 refine ⟨_, aM, ?_⟩
 exact hq _ (by omega) (fun j hj hjr => (g2.2 j (by omega)).trans (hf1 j hj hjr)) (jI.trans hn1 k1 k2)

theorem aIh {p b : Nat} {d : Int} {acc s : ByteArray} (hs : s.size ≤ 1000000) (ps : gI h p b d acc) (hl : (acc ++ (⟨#[34]⟩ :ByteArray) ++ sR s ++ (⟨#[34]⟩ :ByteArray)).size ≤ o5) (hq : kO p b d h (acc ++ (⟨#[34]⟩ :ByteArray) ++ sR s ++ (⟨#[34]⟩ :ByteArray)) Q) : aS Tryz.prog G X 57 [pV p, .string s] h Q := by
 have hp := ps.lt
 have hbl := ps.aY
 refine Wk Tryz.func57 Tryz.ntmps57 (w:=QV (Ma (w:=My (w:=MJ aQ3 (w:=aP5 (q := h.next) (ro := false) aB aD fun h1 x y g1 k1 hx hy hne hox hoy => ?_)))))
 have hn1 := g1.1
 simp only [aA.aC] at hn1 hx hy
 have ps1 : gI h1 p b d acc := gI.grt g1 k1 (ps.alloc _)
 refine Ma (w:=MJ aQ4 (w:=aNq hs (by omega) (by omega) (Ne.symm hne) hox hoy fun h2 hn2 hf2 k2 => ?_))
 have ps2 : gI h2 p b d acc := ps1.dC hn2 (hf2 p (by omega) (by omega)) (hf2 b (by omega) (by omega)) (k2 p (by omega)) (k2 b (by omega))
 refine My (w:=MJ bQ (w:=bH (b := b) (d := d) (acc := acc) (ss := [(⟨#[34]⟩ :ByteArray), sR s, (⟨#[34]⟩ :ByteArray)]) aP aB aB aB aD (by simp) hl ?_))
 intro h3 b3 x3 v3 ps3 fr3 hb3
 have hn3 := fr3.1
 (try simp only [aA.aE, aA.aC] at hn3 hb3)
 simp only [List.foldl_cons, List.foldl_nil] at ps3
 have fb2 : aR p b h h2 := ⟨by omega, fun j hj hjp hjb => (hf2 j (by omega) (by omega)).trans ((g1.2 j aB).trans (bX (by omega) rfl))⟩
 have fb3 : aR p b h h3 := aR.call (b1 := b) aO (by omega) fr3
 refine QL ?_
 refine ⟨_, aM, ?_⟩
 exact hq _ b3 _ _ ps3 (aR.out fb3) (by omega)

section
variable {n : Nat} {r : Pr} {t : Nd} {p b : Nat} {d : Int} {acc : ByteArray} {v : Option Addr} {m es : Nat} {h : aA} {Q : bR → Prop}

theorem aCp (c : CPr n r) (w : Wks (n + 1) t) (hd : 0 ≤ d ∧ d + (n + 1) ≤ 1000000) (ps : gI h p b d acc) (hv : NV h (fun j => j < p) (aG t v m es) t) (hl : (gJ r d t acc).size ≤ o5) (hq : kO p b d h (gJ r d t acc) Q) : aS Tryz.prog G X 61 [pV p, .agg (aG t v m es).toArray] h Q := by
 have hlen := w.len
 have hmk := hv.nD
 subst hmk
 have hp := ps.lt
 have hbl := ps.aY
 unfold gJ at hl hq
 dsimp only at hl hq
 refine Wk Tryz.func61 Tryz.ntmps61 (w:=QN (Mx (w:=QO (Ma (w:=Mj (w:=Mt (w:=My (w:=MJ bQ (w:=bH (b := b) (d := d) (acc := acc) (ss := [t.text, (⟨#[40]⟩ :ByteArray)]) aP aB aB aB aD (by simp) bI ?_)))))))))
 intro h1 b1 x1 v1 ps1 fr1 hb1
 have hn1 := fr1.1
 (try simp only [aA.aE, aA.aC] at hn1 hb1)
 have fb1 : aR p b h h1 := aR.call (b1 := b) aO (by omega) fr1
 have hbl1 := ps1.aY
 simp only [List.foldl_cons, List.foldl_nil] at ps1
 generalize acc ++ t.text ++ (⟨#[40]⟩ :ByteArray) = acc1 at ps1 hq hl
 refine QL (QU (QN (Mj (w:=Mt (w:=QL (Bk (QN (MB (w:=fun hh => Mb (w:=QQ (QV (Ma (w:=Mu (w:=QK ?_)))))) (v:=fun hh => Mb (w:=QP (QN (MB (w:=fun hh => Mb (w:=QQ (QN (Ma (w:=Mu (w:=QK ?_)))))) (v:=fun hh => Mb (w:=QP (QV (Ma (w:=Mj (w:=Mt (w:=Ma (w:=Mp (w:=QK ?_)))))))))))))))))))))
 ·rw [if_pos (by assumption)] at hl hq
  refine QJ eH ?_
  refine cS (t := t) (i := 0) (hv.mono aB (fun j hj hlt => ⟨hj, bB⟩)) (by omega) (by omega) fun h2 v2 m2 e2 g2 k2 nv2 => ?_
  have hn2 := g2.1
  (try simp only [aA.aE, aA.aC] at hn2)
  refine Mk (w:=My (w:=MJ bQ (w:=bH (b := b1) (d := d) (acc := acc1) (ss := [(aW t 0).text]) aP aB aB aB aD (by simp) bI ?_)))
  intro h3 b3 x3 v3 ps3 fr3 hb3
  have hn3 := fr3.1
  (try simp only [aA.aE, aA.aC] at hn3 hb3)
  have fb3 : aR p b h h3 := aR.call (b1 := b1) aO (by omega) fr3
  have hbl3 := ps3.aY
  simp only [List.foldl_cons, List.foldl_nil] at ps3
  generalize acc1 ++ (aW t 0).text = acc3 at ps3 hq hl
  refine QL (QV (Ma (w:=My (w:=MJ bQ (w:=bH (b := b3) (d := d) (acc := acc3) (ss := [(⟨#[41]⟩ :ByteArray)]) aP aB aB aB aD (by simp) bI ?_)))))
  intro h4 b4 x4 v4 ps4 fr4 hb4
  have hn4 := fr4.1
  (try simp only [aA.aE, aA.aC] at hn4 hb4)
  have fb4 : aR p b h h4 := aR.call (b1 := b3) aO (by omega) fr4
  have hbl4 := ps4.aY
  simp only [List.foldl_cons, List.foldl_nil] at ps4
  generalize acc3 ++ (⟨#[41]⟩ :ByteArray) = acc4 at ps4 hq hl
  refine QL ?_
  refine ⟨_, aM, ?_⟩
  exact hq _ b4 _ _ ps4 (aR.out fb4) (by omega)
 ·rw [if_neg (by assumption), if_pos (by assumption)] at hl hq
  refine QJ eH ?_
  refine cS (t := t) (i := 0) (hv.mono aB (fun j hj hlt => ⟨hj, bB⟩)) (by omega) (by omega) fun h2 v2 m2 e2 g2 k2 nv2 => ?_
  have hn2 := g2.1
  (try simp only [aA.aE, aA.aC] at hn2)
  refine MJ aA1 (w:=c.cD (t := aW t 0) (b := b1) (d := d) (acc := acc1) (w.eF 0) aP (nv2.mono aB (fun j hj hlt => ⟨hj, bB⟩)) bI ?_)
  intro h3 b3 x3 v3 ps3 fr3 hb3
  have hn3 := fr3.1
  (try simp only [aA.aE, aA.aC] at hn3 hb3)
  have fb3 : aR p b h h3 := aR.call (b1 := b1) aO (by omega) fr3
  have hbl3 := ps3.aY
  generalize r.cD (aW t 0) acc1 = acc3 at ps3 hq hl
  refine QO (Mj (w:=Mt (w:=Ms (w:=MH (w:=fun hh => QQ (QN (Ma (w:=My (w:=QK ?_))))) (v:=fun hh => QP (UA (QV (Ma (w:=My (w:=QK ?_))))))))))
  ·rw [if_pos (by omega)] at hl hq
   refine QJ bQ ?_
   refine bH (b := b3) (d := d) (acc := acc3) (ss := [(⟨#[44, 32]⟩ :ByteArray)]) aP aB aB aB aD (by simp) bI ?_
   intro h4 b4 x4 v4 ps4 fr4 hb4
   have hn4 := fr4.1
   (try simp only [aA.aE, aA.aC] at hn4 hb4)
   have fb4 : aR p b h h4 := aR.call (b1 := b3) aO (by omega) fr4
   have hbl4 := ps4.aY
   simp only [List.foldl_cons, List.foldl_nil] at ps4
   generalize acc3 ++ (⟨#[44, 32]⟩ :ByteArray) = acc4 at ps4 hq hl
   refine QL (QV (Ma (w:=Mu (w:=MJ eH (w:=cS (t := t) (i := 1) (hv.mono aB (fun j hj hlt => ⟨hj, bB⟩)) (by omega) (by omega) fun h5 v5 m5 e5 g5 k5 nv5 => ?_)))))
   have hn5 := g5.1
   (try simp only [aA.aE, aA.aC] at hn5)
   refine MJ jP (w:=c.expr (t := aW t 1) (b := b4) (d := d) (acc := acc4) ⟨by omega, by omega⟩ (w.eF 1) aP (nv5.mono aB (fun j hj hlt => ⟨hj, bB⟩)) bI ?_)
   intro h6 b6 x6 v6 ps6 fr6 hb6
   have hn6 := fr6.1
   (try simp only [aA.aE, aA.aC] at hn6 hb6)
   have fb6 : aR p b h h6 := aR.call (b1 := b4) aO (by omega) fr6
   have hbl6 := ps6.aY
   generalize r.expr d (aW t 1) acc4 = acc6 at ps6 hq hl
   refine QL (QV (Ma (w:=My (w:=MJ bQ (w:=bH (b := b6) (d := d) (acc := acc6) (ss := [(⟨#[41]⟩ :ByteArray)]) aP aB aB aB aD (by simp) bI ?_)))))
   intro h7 b7 x7 v7 ps7 fr7 hb7
   have hn7 := fr7.1
   (try simp only [aA.aE, aA.aC] at hn7 hb7)
   have fb7 : aR p b h h7 := aR.call (b1 := b6) aO (by omega) fr7
   have hbl7 := ps7.aY
   simp only [List.foldl_cons, List.foldl_nil] at ps7
   generalize acc6 ++ (⟨#[41]⟩ :ByteArray) = acc7 at ps7 hq hl
   refine QL ?_
   refine ⟨_, aM, ?_⟩
   exact hq _ b7 _ _ ps7 (aR.out fb7) (by omega)
  ·rw [if_neg (by omega)] at hl hq
   refine QJ bQ ?_
   refine bH (b := b3) (d := d) (acc := acc3) (ss := [(⟨#[41]⟩ :ByteArray)]) aP aB aB aB aD (by simp) bI ?_
   intro h4 b4 x4 v4 ps4 fr4 hb4
   have hn4 := fr4.1
   (try simp only [aA.aE, aA.aC] at hn4 hb4)
   have fb4 : aR p b h h4 := aR.call (b1 := b3) aO (by omega) fr4
   have hbl4 := ps4.aY
   simp only [List.foldl_cons, List.foldl_nil] at ps4
   generalize acc3 ++ (⟨#[41]⟩ :ByteArray) = acc4 at ps4 hq hl
   refine QL ?_
   refine ⟨_, aM, ?_⟩
   exact hq _ b4 _ _ ps4 (aR.out fb4) (by omega)
 ·rw [if_neg (by assumption), if_neg (by assumption)] at hl hq
  refine QJ aCx ?_
  refine rI (T := r.expr d) (c.m.expr d) (I := fun _ => True) jP (b := b1) (d := d) (acc := acc1) (fun _ _ => trivial) (fun hx _ ps' hv' hl' hq' => c.expr ⟨by omega, by omega⟩ (w.mem hx).x ps' hv' hl' hq') aP (hv.lv.mono aB (fun j hj hlt => ⟨hj, bB⟩)) (by (try simp only [List.length_take, List.length_drop]); omega) bI ?_
  intro h2 b2 x2 v2 ps2 fr2 hb2
  have hn2 := fr2.1
  (try simp only [aA.aE, aA.aC] at hn2 hb2)
  have fb2 : aR p b h h2 := aR.call (b1 := b1) aO (by omega) fr2
  have hbl2 := ps2.aY
  generalize fR (r.expr d) t.kids acc1 = acc2 at ps2 hq hl
  refine QL (QV (Ma (w:=My (w:=MJ bQ (w:=bH (b := b2) (d := d) (acc := acc2) (ss := [(⟨#[41]⟩ :ByteArray)]) aP aB aB aB aD (by simp) bI ?_)))))
  intro h3 b3 x3 v3 ps3 fr3 hb3
  have hn3 := fr3.1
  (try simp only [aA.aE, aA.aC] at hn3 hb3)
  have fb3 : aR p b h h3 := aR.call (b1 := b2) aO (by omega) fr3
  have hbl3 := ps3.aY
  simp only [List.foldl_cons, List.foldl_nil] at ps3
  generalize acc2 ++ (⟨#[41]⟩ :ByteArray) = acc3 at ps3 hq hl
  refine QL ?_
  refine ⟨_, aM, ?_⟩
  exact hq _ b3 _ _ ps3 (aR.out fb3) (by omega)

theorem aHe {q : Nat} (c : CPr n r) (w : Wks (n + 1) t) (hd : 0 ≤ d ∧ d + (n + 1) ≤ 1000000) (ps : gI h p b d acc) (hq2 : h.obj q = some (.cells false [pV p])) (hql : q < h.next ∧ q ≠ p ∧ q ≠ b) (hv : NV h (fun j => j < p) (aG t v m es) t) (hl : (nB r d t acc).size ≤ o5) (hq : kO p b d h (nB r d t acc) Q) : aS Tryz.prog G X 94 [.agg (aG t v m es).toArray, pV q] h Q := by
 have hlen := w.len
 have hmk := hv.nD
 subst hmk
 have hp := ps.lt
 have hbl := ps.aY
 unfold nB at hl hq
 refine Wk Tryz.func94 Tryz.ntmps94 (w:=QN (Mx (w:=QO (Mt (w:=Mj (w:=Mt (w:=My (w:=MJ bQ (w:=bH (b := b) (d := d) (acc := acc) (ss := [t.text, (⟨#[58, 32]⟩ :ByteArray)]) aP aB aB aB aD (by simp) bI ?_)))))))))
 intro h1 b1 x1 v1 ps1 fr1 hb1
 have hn1 := fr1.1
 (try simp only [aA.aE, aA.aC] at hn1 hb1)
 have fb1 : aR p b h h1 := aR.call (b1 := b) aO (by omega) fr1
 have hbl1 := ps1.aY
 simp only [List.foldl_cons, List.foldl_nil] at ps1
 generalize acc ++ t.text ++ (⟨#[58, 32]⟩ :ByteArray) = acc1 at ps1 hq hl
 refine QL (Gd [⟨0, .read, 0⟩, ⟨1, .read, 0⟩, ⟨2, .aF, 2⟩, ⟨3, .aF, 7⟩] (w:=Rt (w:=Ru (w:=?_))));refine WD.aF hX (hw := ?_)
 refine QJ eH ?_
 refine cS (t := t) (i := 0) (hv.mono aB (fun j hj hlt => ⟨hj, bB⟩)) (by omega) (by omega) fun h2 v2 m2 e2 g2 k2 nv2 => ?_
 have hn2 := g2.1
 (try simp only [aA.aE, aA.aC] at hn2)
 refine WD.aF hX (hw := ?_)
 refine QJ jP ?_
 refine c.expr (t := aW t 0) (b := b1) (d := d) (acc := acc1) ⟨by omega, by omega⟩ (w.eF 0) aP (nv2.mono aB (fun j hj hlt => ⟨hj, bB⟩)) bI ?_
 intro h3 b3 x3 v3 ps3 fr3 hb3
 have hn3 := fr3.1
 (try simp only [aA.aE, aA.aC] at hn3 hb3)
 have fb3 : aR p b h h3 := aR.call (b1 := b1) aO (by omega) fr3
 have hbl3 := ps3.aY
 generalize r.expr d (aW t 0) acc1 = acc3 at ps3 hq hl
 refine WD.nil (hq:=?_)
 refine ⟨_, aM, ?_⟩
 exact hq _ b3 _ _ ps3 (aR.out fb3) (by omega)

end

theorem gI.aNi {p b q : Nat} {d : Int} {acc : ByteArray} (ps : gI h p b d acc) (ho : h.obj q = some (.cells false [pV p])) (hqp : q ≠ p) : q ≠ b := by
 intro e
 subst e
 obtain ⟨a, v, n, es, h1, h2, h3⟩ := ps.obj
 rcases h3 with ⟨_, _, _, _, h4⟩ | ⟨k1, k2, k3, k4, k5, k6, k7, k8⟩
 ·exact hqp h4
 ·rw [ho] at k8
  simp only [Option.some.injEq, dS.cells.injEq, true_and] at k8
  unfold j4 at k8
  cases hl : acc.data.toList with
  | nil => rw [hl] at k8; cases k8
  | cons x l => rw [hl] at k8; simp only [List.map_cons, List.cons.injEq] at k8; cases k8.1

theorem aC9 {n : Nat} {r : Pr} {t : Nd} {p b : Nat} {d : Int} {acc : ByteArray} {v : Option Addr} {m es : Nat} (c : CPr n r) (w : Wr n t) (hd : 0 ≤ d ∧ d + (n + 1) ≤ 1000000) (ps : gI h p b d acc) (hv : NV h (fun j => j < p) (aG t v m es) t) (hl : (fS r d t acc).size ≤ o5) (hq : kO p b d h (fS r d t acc) Q) : aS Tryz.prog G X 63 [pV p, .agg (aG t v m es).toArray] h Q := by
 have hlen := w.len
 have hmk := hv.nD
 subst hmk
 have hp := ps.lt
 have hbl := ps.aY
 unfold fS at hl hq
 refine Wk Tryz.func63 Tryz.ntmps63 (w:=QN (Mx (w:=Mx (w:=QO (Mj (w:=Mt (w:=QL (Bk (QN (MD (w:=fun hh => Mb (w:=QQ (QN (Mt (w:=Mj (w:=Mt (w:=My (w:=QK ?_)))))))) (v:=fun hh => Mb (w:=QP (QN (MD (w:=fun hh => Mb (w:=QQ (QN (Mt (w:=My (w:=QK ?_)))))) (v:=fun hh => Mb (w:=QP (QV (Mt (w:=My (w:=QK ?_))))))))))))))))))))
 ·simp only [hh, Int.reduceEq, if_false, if_true] at hl hq
  have w := w.k (by omega)
  refine QJ bQ ?_
  refine bH (b := b) (d := d) (acc := acc) (ss := [(⟨#[40, 38]⟩ :ByteArray), t.text, (⟨#[123]⟩ :ByteArray)]) aP aB aB aB aD (by simp) bI ?_
  intro h1 b1 x1 v1 ps1 fr1 hb1
  have hn1 := fr1.1
  (try simp only [aA.aE, aA.aC] at hn1 hb1)
  have fb1 : aR p b h h1 := aR.call (b1 := b) aO (by omega) fr1
  have hbl1 := ps1.aY
  simp only [List.foldl_cons, List.foldl_nil] at ps1
  generalize acc ++ (⟨#[40, 38]⟩ :ByteArray) ++ t.text ++ (⟨#[123]⟩ :ByteArray) = acc1 at ps1 hq hl
  refine QO (Mt (w:=Mj (w:=Mt (w:=Mp (w:=MJ aCx (w:=?_))))))
  refine rI (T := nB r d) (zO c.m d) (I := fun h' => h'.obj h.next = some (.cells false [pV p]) ∧ h.next < h'.next) aQ5 (b := b1) (d := d) (acc := acc1) (fun h' hf => ⟨(hf.2 h.next aB (by omega) (by omega)).trans aD, by have := hf.1; exact aB⟩) (fun hx hi ps' hv' hl' hq' => aHe c (w.mem hx).up hd ps' hi.1 ⟨hi.2, by omega, ps'.aNi hi.1 (by omega)⟩ hv' hl' hq') aP (hv.lv.mono aB (fun j hj hlt => ⟨hj, bB⟩)) (by omega) bI ?_
  intro h2 b2 x2 v2 ps2 fr2 hb2
  have hn2 := fr2.1
  (try simp only [aA.aE, aA.aC] at hn2 hb2)
  have fb2 : aR p b h h2 := aR.call (b1 := b1) aO (by omega) fr2
  have hbl2 := ps2.aY
  generalize fR (nB r d) t.kids acc1 = acc2 at ps2 hq hl
  have hox : h2.obj h.next = some (.cells false [pV p]) := aD
  refine QL (QV (Mt (w:=My (w:=MJ bQ (w:=bH (b := b2) (d := d) (acc := acc2) (ss := [(⟨#[125, 41]⟩ :ByteArray)]) aP aB aB aB aD (by simp) bI ?_)))))
  intro h3 b3 x3 v3 ps3 fr3 hb3
  have hn3 := fr3.1
  (try simp only [aA.aE, aA.aC] at hn3 hb3)
  have fb3 : aR p b h h3 := aR.call (b1 := b2) aO (by omega) fr3
  have hbl3 := ps3.aY
  simp only [List.foldl_cons, List.foldl_nil] at ps3
  generalize acc2 ++ (⟨#[125, 41]⟩ :ByteArray) = acc3 at ps3 hq hl
  refine QL ?_
  refine ⟨_, aM, ?_⟩
  exact hq _ b3 _ _ ps3 (aR.out fb3) (by omega)
 ·simp only [hh, Int.reduceEq, if_false, if_true] at hl hq
  have w := w.k (by omega)
  have hd1 : (if (t.kids.length : Int) < 1 then (t.kids.length : Int) else 1) = ((min 1 t.kids.length : Nat) : Int) := by split <;> omega
  refine QJ bQ ?_
  refine bH (b := b) (d := d) (acc := acc) (ss := [(⟨#[40, 91, 93]⟩ :ByteArray)]) aP aB aB aB aD (by simp) bI ?_
  intro h1 b1 x1 v1 ps1 fr1 hb1
  have hn1 := fr1.1
  (try simp only [aA.aE, aA.aC] at hn1 hb1)
  have fb1 : aR p b h h1 := aR.call (b1 := b) aO (by omega) fr1
  have hbl1 := ps1.aY
  simp only [List.foldl_cons, List.foldl_nil] at ps1
  generalize acc ++ (⟨#[40, 91, 93]⟩ :ByteArray) = acc1 at ps1 hq hl
  refine QL (QU (Gd [⟨0, .read, 0⟩, ⟨1, .read, 0⟩, ⟨2, .aF, 2⟩, ⟨3, .aF, 7⟩] (w:=Rt (w:=Ru (w:=?_)))));refine WD.aF hX (hw := ?_)
  refine QJ eH ?_
  refine cS (t := t) (i := 0) (hv.mono aB (fun j hj hlt => ⟨hj, bB⟩)) (by omega) (by omega) fun h2 v2 m2 e2 g2 k2 nv2 => ?_
  have hn2 := g2.1
  (try simp only [aA.aE, aA.aC] at hn2)
  refine WD.aF hX (hw := ?_)
  refine QJ aA1 ?_
  refine c.cD (t := aW t 0) (b := b1) (d := d) (acc := acc1) (w.eF 0) aP (nv2.mono aB (fun j hj hlt => ⟨hj, bB⟩)) bI ?_
  intro h3 b3 x3 v3 ps3 fr3 hb3
  have hn3 := fr3.1
  (try simp only [aA.aE, aA.aC] at hn3 hb3)
  have fb3 : aR p b h h3 := aR.call (b1 := b1) aO (by omega) fr3
  have hbl3 := ps3.aY
  generalize r.cD (aW t 0) acc1 = acc3 at ps3 hq hl
  refine WD.nil (hq:=QN (Mt (w:=My (w:=MJ bQ (w:=bH (b := b3) (d := d) (acc := acc3) (ss := [(⟨#[123]⟩ :ByteArray)]) aP aB aB aB aD (by simp) bI ?_)))))
  intro h4 b4 x4 v4 ps4 fr4 hb4
  have hn4 := fr4.1
  (try simp only [aA.aE, aA.aC] at hn4 hb4)
  have fb4 : aR p b h h4 := aR.call (b1 := b3) aO (by omega) fr4
  have hbl4 := ps4.aY
  simp only [List.foldl_cons, List.foldl_nil] at ps4
  generalize acc3 ++ (⟨#[123]⟩ :ByteArray) = acc4 at ps4 hq hl
  refine QL (QU (Gd [⟨0, .read, 0⟩, ⟨1, .pure, 0⟩, ⟨2, .read, 2⟩, ⟨3, .pure, 0⟩, ⟨4, .read, 8⟩, ⟨5, .read, 24⟩, ⟨6, .read, 56⟩, ⟨7, .pure, 126⟩, ⟨8, .read, 0⟩, ⟨9, .pure, 256⟩, ⟨10, .aF, 1023⟩] (w:=Rt (w:=Dj (w:=Rt (w:=Dj (w:=Rt (w:=Rs (w:=?_)))))))));refine QX (k := WS.min (hk := ?_));refine WD.pure (hw := ?_)
  simp only [hd1]
  have nv5 : NV h4 (fun j => j < p) (aG t v t.kids.length es) t := hv.mono aB (fun j hj hlt => ⟨hj, bB⟩)
  have hdr : t.kids.drop (min 1 t.kids.length) = t.kids.drop 1 := by
   by_cases h0 : t.kids.length = 0
   ·rw [List.eq_nil_of_length_eq_zero h0]; rfl
   ·rw [show min 1 t.kids.length = 1 by omega]
  obtain ⟨vs5, ms5, es5, hsl, lv5⟩ := nv5.lv.lo (k := min 1 t.kids.length) (by omega)
  rw [hdr] at lv5
  apply WS.slice
  (· rfl); (· rfl); (· exact aL); (· rfl); (· rfl); (· exact hsl)
  refine Rt (w:=Dp (w:=?_));refine WD.aF hX (hw := ?_)
  refine QJ aCx ?_
  refine rI (T := r.expr d) (c.m.expr d) (I := fun _ => True) jP (b := b4) (d := d) (acc := acc4) (fun _ _ => trivial) (fun hx _ ps' hv' hl' hq' => c.expr ⟨by omega, by omega⟩ (w.mem (List.mem_of_mem_drop hx)).x ps' hv' hl' hq') aP (lv5.mono aB (fun j hj hlt => ⟨hj, bB⟩)) (by (try simp only [List.length_take, List.length_drop]); omega) bI ?_
  intro h6 b6 x6 v6 ps6 fr6 hb6
  have hn6 := fr6.1
  (try simp only [aA.aE, aA.aC] at hn6 hb6)
  have fb6 : aR p b h h6 := aR.call (b1 := b4) aO (by omega) fr6
  have hbl6 := ps6.aY
  generalize fR (r.expr d) (t.kids.drop 1) acc4 = acc6 at ps6 hq hl
  refine WD.nil (hq:=QV (Mt (w:=My (w:=MJ bQ (w:=bH (b := b6) (d := d) (acc := acc6) (ss := [(⟨#[125, 41]⟩ :ByteArray)]) aP aB aB aB aD (by simp) bI ?_)))))
  intro h7 b7 x7 v7 ps7 fr7 hb7
  have hn7 := fr7.1
  (try simp only [aA.aE, aA.aC] at hn7 hb7)
  have fb7 : aR p b h h7 := aR.call (b1 := b6) aO (by omega) fr7
  have hbl7 := ps7.aY
  simp only [List.foldl_cons, List.foldl_nil] at ps7
  generalize acc6 ++ (⟨#[125, 41]⟩ :ByteArray) = acc7 at ps7 hq hl
  refine QL ?_
  refine ⟨_, aM, ?_⟩
  exact hq _ b7 _ _ ps7 (aR.out fb7) (by omega)
 ·simp only [‹¬ t.kind = 49›, ‹¬ t.kind = 50›, if_false] at hl hq
  refine QJ bQ ?_
  refine bH (b := b) (d := d) (acc := acc) (ss := [(⟨#[63]⟩ :ByteArray)]) aP aB aB aB aD (by simp) bI ?_
  intro h1 b1 x1 v1 ps1 fr1 hb1
  have hn1 := fr1.1
  (try simp only [aA.aE, aA.aC] at hn1 hb1)
  have fb1 : aR p b h h1 := aR.call (b1 := b) aO (by omega) fr1
  have hbl1 := ps1.aY
  simp only [List.foldl_cons, List.foldl_nil] at ps1
  generalize acc ++ (⟨#[63]⟩ :ByteArray) = acc1 at ps1 hq hl
  refine QL ?_
  refine ⟨_, aM, ?_⟩
  exact hq _ b1 _ _ ps1 (aR.out fb1) (by omega)

end Go.Proofs.ZL
end
