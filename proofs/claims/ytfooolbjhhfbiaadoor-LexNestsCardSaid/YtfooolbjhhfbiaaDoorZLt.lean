/- the tables of the types -/
import Derived.Test.YtfooolbjhhfbiaaDoorZTac
import Derived.Test.YtfooolbjhhfbiaaDoorChecked
open Go Go.Am
namespace Go.Proofs.ZL
def szs : List Nat := [1, 1, 1, 1, 1, 1, 1, 4, 4, 1, 1, 1, 1, 2, 2, 1, 1, 1, 1, 1, 1, 1, 1, 1, 1, 2, 2, 1, 1, 1, 4, 4, 1, 1, 1, 1, 1, 1, 1, 1, 1, 3, 3, 1, 1, 1, 1, 1, 1, 1, 1, 1, 1, 1, 1, 3, 3, 1, 1, 1, 1, 1, 1, 1, 1, 1, 1, 1, 1, 1, 1, 1, 1, 1, 1, 1, 1, 1, 1, 1, 2, 2, 1, 1, 1, 1, 2, 1, 1, 1, 1, 1, 1, 1, 1, 1, 1, 1, 1, 1, 3, 3, 1, 1, 1, 1, 1, 1, 1, 1, 24, 1, 1, 1, 1, 1, 1, 20, 1, 65, 1, 1, 1, 32, 64, 1, 4, 4, 0, 0, 0, 1, 1, 1, 1, 1, 1, 11, 11, 1, 1, 2, 2, 1, 1, 1, 5, 5, 1, 1, 4, 4, 1]
def offs : List (List (Option Nat)) := [[], [], [], [], [], [], [], [some 0, some 1, some 2, some 3], [some 0, some 1, some 2, some 3], [], [], [], [], [some 0, some 1], [some 0, some 1], [], [], [], [some 0], [some 0], [], [], [], [], [], [some 0, some 1], [some 0, some 1], [], [], [], [some 0, some 1, some 2, some 3], [some 0, some 1, some 2, some 3], [], [], [], [], [], [], [], [], [], [some 0, some 1, some 2], [some 0, some 1, some 2], [], [], [], [some 0], [some 0], [], [], [], [], [], [], [], [some 0, some 1, some 2], [some 0, some 1, some 2], [], [], [], [], [], [], [], [], [], [], [some 0], [some 0], [], [], [], [], [], [], [], [], [], [], [], [some 0, some 1], [some 0, some 1], [], [], [], [], [], [], [], [], [], [], [], [], [], [], [], [], [], [], [some 0, some 1, some 2], [some 0, some 1, some 2], [], [], [], [], [], [some 0], [some 0], [], [], [], [], [], [], [], [], [], [], [], [], [], [], [], [], [], [some 0, some 1, some 2, some 3], [some 0, some 1, some 2, some 3], [], [none], [none], [], [], [], [], [], [], [some 0, some 1, some 2, some 3, some 4, some 5, some 6, some 7, some 8, some 9, some 10], [some 0, some 1, some 2, some 3, some 4, some 5, some 6, some 7, some 8, some 9, some 10], [], [], [some 0, some 1], [some 0, some 1], [], [], [], [some 0, some 1, some 2, some 3, some 4], [some 0, some 1, some 2, some 3, some 4], [], [], [some 0, some 1, some 2, some 3], [some 0, some 1, some 2, some 3], []]
def fits : List (Option (Nat × Nat)) := [none, some (1, 8), some (1, 8), some (1, 8), some (1, 1), some (1, 1), some (1, 1), some (4, 24), some (4, 24), some (1, 16), some (1, 16), some (1, 16), some (1, 8), some (2, 24), some (2, 24), some (1, 8), some (1, 8), some (1, 8), some (1, 8), some (1, 8), some (1, 16), some (1, 4), some (1, 24), some (1, 8), some (1, 24), some (2, 16), some (2, 16), none, some (1, 8), some (1, 8), some (4, 40), some (4, 40), some (1, 24), some (1, 8), some (1, 24), some (1, 8), some (1, 8), some (1, 8), some (1, 8), some (1, 8), some (1, 8), some (3, 48), some (3, 48), some (1, 16), some (1, 16), some (1, 8), some (1, 8), some (1, 8), some (1, 8), some (1, 8), none, some (1, 8), some (1, 8), some (1, 8), some (1, 8), some (3, 24), some (3, 24), some (1, 8), some (1, 16), some (1, 16), some (1, 8), some (1, 1), some (1, 8), some (1, 8), some (1, 8), some (1, 8), some (1, 8), some (1, 8), some (1, 8), some (1, 8), some (1, 8), some (1, 8), some (1, 8), some (1, 16), none, some (1, 8), some (1, 16), some (1, 16), some (1, 24), some (1, 8), some (2, 32), some (2, 32), none, some (1, 8), none, some (1, 8), some (2, 16), some (1, 8), some (1, 8), some (1, 8), some (1, 8), none, some (1, 8), some (1, 8), some (1, 8), some (1, 8), some (1, 8), none, some (1, 8), some (1, 8), some (3, 48), some (3, 48), some (1, 8), some (1, 8), some (1, 8), some (1, 8), some (1, 8), some (1, 16), some (1, 16), some (1, 8), some (24, 24), some (1, 8), some (1, 8), none, some (1, 8), some (1, 8), some (1, 8), some (20, 160), some (1, 4), some (65, 65), some (1, 8), some (1, 8), some (1, 8), some (32, 32), some (64, 64), some (1, 8), some (4, 40), some (4, 40), none, none, none, some (1, 8), some (1, 8), some (1, 1), some (1, 8), some (1, 4), some (1, 4), some (11, 48), some (11, 48), some (1, 8), some (1, 8), some (2, 24), some (2, 24), some (1, 8), some (1, 8), some (1, 2), some (5, 16), some (5, 16), some (1, 24), some (1, 4), some (4, 16), some (4, 16), some (1, 8)]

theorem tab_at {α β : Type} {f : Nat → α} {g : β → α} {l : List β} (hl : (List.range l.length).map f = l.map g) {t : Nat} {m : β} (h : l[t]? = some m) : f t = g m := by
  have ht : t < l.length := by
    rcases Nat.lt_or_ge t l.length with h' | h'
    · exact h'
    · rw [List.getElem?_eq_none h'] at h; cases h
  have h1 : ((List.range l.length).map f)[t]? = some (f t) := by
    rw [List.getElem?_map, List.getElem?_range ht]; rfl
  rw [hl, List.getElem?_map, h] at h1
  exact (Option.some.inj h1).symm

theorem sz_all : (List.range szs.length).map (sizeT Tryd.prog) = szs.map some := by decide +kernel
theorem offs_all : (List.range offs.length).map (fieldOffs Tryd.prog) = offs.map id := by decide +kernel
theorem fits_all : (List.range fits.length).map (elemFits Tryd.prog) = fits.map id := by decide +kernel

theorem sz_at {t m : Nat} (h : szs[t]? = some m) : sizeT Tryd.prog t = some m := tab_at sz_all h
theorem offs_at {t f o : Nat} {l : List (Option Nat)} (h : offs[t]? = some l) (h2 : l[f]? = some (some o)) : (fieldOffs Tryd.prog t)[f]? = some (some o) := by
  rw [tab_at offs_all h]; exact h2
theorem fits_at {t m b : Nat} (h : fits[t]? = some (some (m, b))) : elemFits Tryd.prog t = some (m, b) := tab_at fits_all h
end Go.Proofs.ZL
