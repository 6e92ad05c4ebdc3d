/- The library's sync.Once, in the model: the first call. -/
import Derived.Test.YtpdkdgfknanipaaGreatDoorChecked
import Derived.WalkKit
import Derived.Tactics
import Derived.Tactics2
import Derived.Defers
import Derived.Laws.Pointers
import Derived.Laws.LoneSync
import Derived.Laws.NewBlocks
import Derived.RegionTactic
import Derived.RegionCalls
import Derived.ChangeAlike
open Go Go.RowKit
namespace Go.Proofs.ZLO
set_option linter.unusedVariables false
set_option maxRecDepth 100000
set_option maxHeartbeats 2000000

theorem disable (w : World) : (callFunc 214 #[]).run Tryz.prog w = .ok (.value (.tuple #[])) w := run_call_mark0 Tryz.func214 (by kernel_rfl) (by kernel_rfl) (by kernel_rfl) .disable (by kernel_rfl) w
theorem enable (w : World) : (callFunc 216 #[]).run Tryz.prog w = .ok (.value (.tuple #[])) w := run_call_mark0 Tryz.func216 (by kernel_rfl) (by kernel_rfl) (by kernel_rfl) .enable (by kernel_rfl) w
theorem acquire (a : Addr) (w : World) : (callFunc 217 #[.pointer (some a)]).run Tryz.prog w = .ok (.value (.tuple #[])) w := run_call_marked Tryz.func217 (by kernel_rfl) (by kernel_rfl) (by kernel_rfl) .acquire (by kernel_rfl) a w
theorem releaseMerge (a : Addr) (w : World) : (callFunc 219 #[.pointer (some a)]).run Tryz.prog w = .ok (.value (.tuple #[])) w := run_call_marked Tryz.func219 (by kernel_rfl) (by kernel_rfl) (by kernel_rfl) .releaseMerge (by kernel_rfl) a w
theorem aQg : Tryz.prog.underlying 241 = some (.pointer 143) := by kernel_rfl
theorem aI2 : Tryz.prog.underlying 88 = some .unsafePointer := by kernel_rfl

theorem xD (a : Addr) (x : Value) (u : FrameMode) (w : World) (hc : w.cell? a = some x) (hz : w.frozen? a = false) :
  CallsD Tryz.prog 168 #[.pointer (some a), .bool true] u w fun e u' w' => u' = u ∧ (e = .returned (.tuple #[]) ∧ w' = w.drew.setCell a (.int .u32 1)) := by
 have hc' : w.drew.cell? a = some x := by go_simp
 have hz' : w.drew.frozen? a = false := by go_simp
 have hst := run_call_store (P := Tryz.prog) Tryz.func194 (by kernel_rfl) (by kernel_rfl) (by kernel_rfl) (by kernel_rfl) (k := .u32) (y := 1) hc' hz'
 go_enter_d Tryz.func168, Tryz.ntmps168
 go_wp2
 go_region_calls
 all_goals (go_end0; exact ⟨rfl, rfl⟩)

theorem u5 (a : Addr) (u : FrameMode) (w : World) (hc : w.cell? a = some (.int .i32 1)) (hz : w.frozen? a = false) :
  CallsD Tryz.prog 167 #[.pointer (some a)] u w fun e u' w' => u' = u ∧ (e = .returned (.tuple #[]) ∧ w' = w.setCell a (.int .i32 0)) := by
 have hd := disable
 have he := enable
 have hr := releaseMerge
 have hadd := run_call_add (P := Tryz.prog) Tryz.func220 (by kernel_rfl) (by kernel_rfl) (by kernel_rfl) .i32 (by kernel_rfl) (y := -1) (s := 0) hc hz (by simp [go_sem]; rfl)
 have hcv := run_convert_to_unsafe (P := Tryz.prog) (src := 241) (dst := 88) aQg aI2 (by kernel_rfl) hc
 go_enter_d Tryz.func167, Tryz.ntmps167
 go_wp2
 go_end0
 go_wp2
 go_end0
 exact ⟨rfl, rfl⟩

theorem aFd (a : Addr) (w : World) (hc : w.cell? a = some (.int .i32 0)) (hz : w.frozen? a = false) :
  Calls Tryz.prog 166 #[.pointer (some a)] w fun e w' => e = .returned (.tuple #[]) ∧ w' = w.setCell a (.int .i32 1) := by
 have hd := disable
 have he := enable
 have ha := acquire
 have hcas := run_call_cas_hit (P := Tryz.prog) Tryz.func215 (by kernel_rfl) (by kernel_rfl) (by kernel_rfl) .i32 (by kernel_rfl) (y := 1) hc hz
 have hc' : (w.setCell a (.int .i32 1)).cell? a = some (.int .i32 1) := World.cell?_setCell_same w a _ hc
 have hcv := run_convert_to_unsafe (P := Tryz.prog) (src := 241) (dst := 88) aQg aI2 (by kernel_rfl) hc'
 go_enter Tryz.func166, Tryz.ntmps166
 go_wp2
 first | go_end0 | (simp only [Exit.inBlock, Exit.then]; refine bodyPost_ret (results_none rfl _ _ _) rfl ?_) | refine bodyPost_ret (results_none rfl _ _ _) rfl ?_
 go_wp2
 go_end0
 exact ⟨rfl, rfl⟩

structure Left (b off : Nat) (w : World) : Prop where
 c0 : w.cell? ⟨b, off, none⟩ = some (.int .u32 0)
 c1 : w.cell? ⟨b, off + 1, none⟩ = some (.int .i32 1)
 f0 : w.frozen? ⟨b, off, none⟩ = false
 f1 : w.frozen? ⟨b, off + 1, none⟩ = false

theorem aRb (b off : Nat) (r : Value) (uZ : World → Prop) (w : World) (h0 : w.cell? ⟨b, off, none⟩ = some (.int .u32 0)) (h1 : w.cell? ⟨b, off + 1, none⟩ = some (.int .i32 0)) (f0 : w.frozen? ⟨b, off, none⟩ = false) (f1 : w.frozen? ⟨b, off + 1, none⟩ = false)
  (hf : Calls Tryz.prog 120 #[r] (w.setCell ⟨b, off + 1, none⟩ (.int .i32 1)) fun e w2 => (∃ v, e = .returned v) ∧ Left b off w2 ∧ uZ w2) :
  Calls Tryz.prog 142 #[.pointer (some ⟨b, off, none⟩), .func (.func 120) #[r] #[]] w fun e w' => e = .returned (.tuple #[]) ∧ ∃ w2, uZ w2 ∧ w' = (w2.drew.setCell ⟨b, off, none⟩ (.int .u32 1)).setCell ⟨b, off + 1, none⟩ (.int .i32 0) := by
 have hl := run_call_load (P := Tryz.prog) Tryz.func165 (by kernel_rfl) (by kernel_rfl) (by kernel_rfl) .u32 (by kernel_rfl) (w := w.setCell ⟨b, off + 1, none⟩ (.int .i32 1)) (a := ⟨b, off, none⟩) (x := 0) ((World.cell?_setCell_other _ ⟨b, off + 1, none⟩ ⟨b, off, none⟩ _ (by simp)).trans h0)
 have hnot : ∀ (x : Bool) (w : World), (Op.unary .not (.bool x)).run Tryz.prog w = .ok (.bool (!x)) w := fun _ _ => rfl
 go_enter_defers Tryz.func142, Tryz.ntmps142
 go_wp2_with (first | (go_at_call 166; refine (aFd ⟨b, off + 1, none⟩ _ (by go_simp) (by go_simp)).mono ?_; rintro e w' ⟨rfl, rfl⟩) | (go_at_call 141; go_in) | (go_at_call 120; refine hf.mono ?_; rintro e w2 ⟨⟨v, rfl⟩, hL, hP⟩))
 refine leaves_cons (f := 168) (args := #[.pointer (some ⟨b, off, none⟩), .bool true]) (by simp) (by simp [go_sem]) ?_
 refine (xD ⟨b, off, none⟩ (.int .u32 0) .returning _ hL.c0 hL.f0).mono ?_
 rintro e u' w'' ⟨rfl, rfl, rfl⟩
 refine leaves_cons (f := 167) (args := #[.pointer (some ⟨b, off + 1, none⟩)]) (by simp [settle]) (by simp [go_sem]) ?_
 refine (u5 ⟨b, off + 1, none⟩ _ _ ?_ (by simp [hL.f1])).mono ?_
 ·refine (World.cell?_setCell_other _ ⟨b, off, none⟩ ⟨b, off + 1, none⟩ _ (by simp)).trans ?_
  rw [World.cell?_drew]
  exact hL.c1
 rintro e u' w'' ⟨rfl, rfl, rfl⟩
 simp [Leaves, settle, results, Tryz.results142]
 exact ⟨_, hP, rfl⟩

theorem once (b off : Nat) (r : Value) (uZ : World → Prop) (w : World) (h0 : w.cell? ⟨b, off, none⟩ = some (.int .u32 0)) (h1 : w.cell? ⟨b, off + 1, none⟩ = some (.int .i32 0)) (f0 : w.frozen? ⟨b, off, none⟩ = false) (f1 : w.frozen? ⟨b, off + 1, none⟩ = false)
  (hf : Calls Tryz.prog 120 #[r] (w.setCell ⟨b, off + 1, none⟩ (.int .i32 1)) fun e w2 => (∃ v, e = .returned v) ∧ Left b off w2 ∧ uZ w2) :
  Calls Tryz.prog 119 #[.pointer (some ⟨b, off, none⟩), .func (.func 120) #[r] #[]] w fun e w' => e = .returned (.tuple #[]) ∧ ∃ w2, uZ w2 ∧ w' = (w2.drew.setCell ⟨b, off, none⟩ (.int .u32 1)).setCell ⟨b, off + 1, none⟩ (.int .i32 0) := by
 have hl := run_call_load (P := Tryz.prog) Tryz.func165 (by kernel_rfl) (by kernel_rfl) (by kernel_rfl) .u32 (by kernel_rfl) h0
 have hnot : ∀ (x : Bool) (w : World), (Op.unary .not (.bool x)).run Tryz.prog w = .ok (.bool (!x)) w := fun _ _ => rfl
 go_enter Tryz.func119, Tryz.ntmps119
 go_wp2_with (first | (go_at_call 142; refine (aRb b off r uZ _ h0 h1 f0 f1 hf).mono ?_; rintro e w' ⟨rfl, w2, hP, rfl⟩) | (go_at_call 141; go_in))
 go_end0
 exact ⟨rfl, _, hP, rfl⟩

end Go.Proofs.ZLO
